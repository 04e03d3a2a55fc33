/- Texts that are wanted for PTopClaims.
   Conditions: none. -/
import Derived.Test.YtbcnnhlpilmmbaaGreatJPTopClaims01
set_option maxRecDepth 100000
set_option maxHeartbeats 6400000
namespace Go.Proofs.YtbcnnhlpilmmbaaGreat
open Go Go.RowKit
variable {w:World} {C:Nat→Nat} {M:ML} {m:Nat→Int}
theorem uz (h:aj w C M m) (i:Nat) (hi:i<M.sz) (kind:Int) (x:Int) (ok:Bool) (hx:0≤x∧x<18446744073709551616)
  (uA:∀ W,Fr C K1 LM w W→Calls Tryz.prog 68 #[.int .u64 (m i)] W fun e w'=>e= .returned (.tuple #[.int .u64 x,.bool ok])∧W=w'):
  Calls Tryz.prog 67 #[.pointer (some ⟨M.b,0,none⟩),.int .i64 kind,.int .i64 i,.func (.func 68) #[] #[]] w (uy C M (if ok then upd m i x else m) (.agg #[.int .i64 kind,.int .i64 i,.int .u64 (m i),.int .u64 x,.bool ok]) w):=by
 obtain⟨hs,hs1,hs2⟩:=h.sz
 obtain⟨n,k,aa,o,xx,q,hb⟩:=h.blk
 have hc:=hb.blk.cells
 have hf:=hb.blk.frees
 have hl:=hb.lt
 have HV:=Lib.hid (show ld M m (i:Int)=m i by unfold ld;rw[if_pos (by omega)];rfl)
 have d0:decide ((i:Int)<0)=false:=decide_eq_false (by omega)
 have d1:decide (M.sz≤i)=false:=decide_eq_false (by omega)
 have KD:=dG m hi
 have HH:=Lib.hid h
 have hrow:=h.row
 have hne:=h.ne
 have hne':=fun e=>hne (Eq.symm e)
 clear hs h
 go_enter Tryz.func67,Tryz.ntmps67
 go_wp2_with fail
 have hb1:=(hb.ar 3 (.int .i64 (wrap64 (n+1)))).alloc (.cells #[.int .i64 0,.int .i64 0,.int .u64 0,.int .u64 0,.bool false] 73)
 have hr1:=(hrow.far (p:=⟨M.b,3,none⟩) hne' (.int .i64 (wrap64 (n+1)))).alloc (.cells #[.int .i64 0,.int .i64 0,.int .u64 0,.int .u64 0,.bool false] 73)
 have hR:=bo.newAt (w.setCell ⟨M.b,3,none⟩ (.int .i64 (wrap64 (n+1)))) 73 #[.int .i64 0,.int .i64 0,.int .u64 0,.int .u64 0,.bool false] (g:=w.heap.size) (by simp)
 have hfr:=((Fr.refl C K1 LM w).ar hb rfl (by decide) 3 (.int .i64 (wrap64 (n+1)))).alloc (.cells #[.int .i64 0,.int .i64 0,.int .u64 0,.int .u64 0,.bool false] 73)
 generalize((w.setCell ⟨M.b,3,none⟩ (.int .i64 (wrap64 (n+1)))).alloc (.cells #[.int .i64 0,.int .i64 0,.int .u64 0,.int .u64 0,.bool false] 73))=w1 at *
 have hb1':SB w1 C 1 M.b 75 #[.int .i64 M.L.th,.int .i64 M.L.nd,.slice (some ⟨M.wb,0,none⟩) M.sz M.sz,.int .i64 (wrap64 (n+1)),.int .i64 k,.int .i64 aa,.int .u64 o,.int .u64 xx,.bool q]:=hb1
 clear hb1 hc hf hl
 have hm1:aj w1 C M m:=⟨HH.out.ok,⟨_,_,_,_,_,_,hb1'⟩,hr1,HH.out.rng⟩
 have fA:w.heap.size≠M.b:=fun e=>by have:=hb.lt;omega
 obtain⟨R,jf⟩:∃ R,w.heap.size=R:=⟨_,rfl⟩
 rw[jf] at hR fA
 have Bc:R≠M.wb:=fun e=>by have:=hrow.lt;omega
 have HR:=Lib.hid jf
 rw[jf]
 clear jf
 refine(gC hm1 (i:Int)).mono ?_
 rintro e w2 ⟨rfl,rfl⟩
 have hc:=hb1'.blk.cells
 have hf:=hb1'.blk.frees
 have hl:=hb1'.lt
 rw[HV.out]
 go_wp2_with fail
 have hb2:=((((hb1'.ar 4 (.int .i64 kind)).ar 5 (.int .i64 i)).ar 6 (.int .u64 (m i))).ar 7 (.int .u64 (m i))).ar 8 (.bool false)
 have hr2:=((((hr1.far (p:=⟨M.b,4,none⟩) hne' (.int .i64 kind)).far (p:=⟨M.b,5,none⟩) hne' (.int .i64 i)).far (p:=⟨M.b,6,none⟩) hne' (.int .u64 (m i))).far (p:=⟨M.b,7,none⟩) hne' (.int .u64 (m i))).far (p:=⟨M.b,8,none⟩) hne' (.bool false)
 have hR2:=((((hR.far (p:=⟨M.b,4,none⟩) fA (.int .i64 kind)).far (p:=⟨M.b,5,none⟩) fA (.int .i64 i)).far (p:=⟨M.b,6,none⟩) fA (.int .u64 (m i))).far (p:=⟨M.b,7,none⟩) fA (.int .u64 (m i))).far (p:=⟨M.b,8,none⟩) fA (.bool false)
 have hfr2:=((((hfr.ar hb1' rfl (by decide) 4 (.int .i64 kind)).ar (hb1'.ar 4 _) rfl (by decide) 5 (.int .i64 i)).ar ((hb1'.ar 4 _).ar 5 _) rfl (by decide) 6 (.int .u64 (m i))).ar (((hb1'.ar 4 _).ar 5 _).ar 6 _) rfl (by decide) 7 (.int .u64 (m i))).ar ((((hb1'.ar 4 _).ar 5 _).ar 6 _).ar 7 _) rfl (by decide) 8 (.bool false)
 generalize(((((w1.setCell ⟨M.b,4,none⟩ (.int .i64 kind)).setCell ⟨M.b,5,none⟩ (.int .i64 i)).setCell ⟨M.b,6,none⟩ (.int .u64 (m i))).setCell ⟨M.b,7,none⟩ (.int .u64 (m i))).setCell ⟨M.b,8,none⟩ (.bool false))=w2 at *
 have hb2':SB w2 C 1 M.b 75 #[.int .i64 M.L.th,.int .i64 M.L.nd,.slice (some ⟨M.wb,0,none⟩) M.sz M.sz,.int .i64 (wrap64 (n+1)),.int .i64 kind,.int .i64 i,.int .u64 (m i),.int .u64 (m i),.bool false]:=hb2
 clear hb2 hc hf hl hb1' hr1 hR hfr hm1
 ((with_reducible refine(uA w2 hfr2).mono ?_);rintro e w3 ⟨rfl,rfl⟩)
 have hc:=hb2'.blk.cells
 have hf:=hb2'.blk.frees
 have hl:=hb2'.lt
 have hcw:w2.cell? ⟨M.wb,i,none⟩=some (.int .u64 (m i)):=(hr2.blk.cell i).trans (dG m hi)
 have hfw:=hr2.blk.frozen i
 have FM:=hr2.lt
 have hcR:=hR2.cells
 have FN:=hR2.frees
 have FO:=hR2.lt
 have hb3:=(hb2'.ar 7 (.int .u64 x)).ar 8 (.bool ok)
 have hr3:=(hr2.far (p:=⟨M.b,7,none⟩) hne' (.int .u64 x)).far (p:=⟨M.b,8,none⟩) hne' (.bool ok)
 have hfr3:=(hfr2.ar hb2' rfl (by decide) 7 (.int .u64 x)).ar (hb2'.ar 7 _) rfl (by decide) 8 (.bool ok)
 have DI:=(hR2.far (p:=⟨M.b,7,none⟩) fA (.int .u64 x)).far (p:=⟨M.b,8,none⟩) fA (.bool ok)
 have cy:w.heap.size≤R:=by have:=HR.out;omega
 have cz:M.b≠R:=fun e=>fA (Eq.symm e)
 have cA:M.wb≠R:=fun e=>Bc (Eq.symm e)
 cases ok
 ·go_wp2_with fail
  refine bodyPost_ret (v:= .agg #[.int .i64 kind,.int .i64 i,.int .u64 (m i),.int .u64 x,.bool false]) ?_ rfl ?_
  ·simp[results,Tryz.results67,go_sem,hcR]
  ·exact⟨rfl,⟨HH.out.ok,⟨_,_,_,_,_,_,(((((hb3.far (p:=⟨R,0,none⟩) cz _).far (p:=⟨R,1,none⟩) cz _).far (p:=⟨R,2,none⟩) cz _).far (p:=⟨R,3,none⟩) cz _).far (p:=⟨R,4,none⟩) cz _)⟩,(((((hr3.far (p:=⟨R,0,none⟩) cA _).far (p:=⟨R,1,none⟩) cA _).far (p:=⟨R,2,none⟩) cA _).far (p:=⟨R,3,none⟩) cA _).far (p:=⟨R,4,none⟩) cA _),HH.out.rng⟩,(((((hfr3.cH (p:=⟨R,0,none⟩) cy _).cH (p:=⟨R,1,none⟩) cy _).cH (p:=⟨R,2,none⟩) cy _).cH (p:=⟨R,3,none⟩) cy _).cH (p:=⟨R,4,none⟩) cy _)⟩
 ·have hb4:=hb3.far (p:=⟨M.wb,i,none⟩) hne (.int .u64 x)
  have hr4:=hr3.ar i (.int .u64 x)
  rw[je] at hr4
  have wQ:=hfr3.ar hr3 rfl (by decide) i (.int .u64 x)
  go_wp2_with fail
  refine bodyPost_ret (v:= .agg #[.int .i64 kind,.int .i64 i,.int .u64 (m i),.int .u64 x,.bool true]) ?_ rfl ?_
  ·simp[results,Tryz.results67,go_sem,hcR]
  ·exact⟨rfl,⟨HH.out.ok,⟨_,_,_,_,_,_,(((((hb4.far (p:=⟨R,0,none⟩) cz _).far (p:=⟨R,1,none⟩) cz _).far (p:=⟨R,2,none⟩) cz _).far (p:=⟨R,3,none⟩) cz _).far (p:=⟨R,4,none⟩) cz _)⟩,(((((hr4.far (p:=⟨R,0,none⟩) cA _).far (p:=⟨R,1,none⟩) cA _).far (p:=⟨R,2,none⟩) cA _).far (p:=⟨R,3,none⟩) cA _).far (p:=⟨R,4,none⟩) cA _),fun j=>by
    by_cases e:j=i
    ·subst e;rw[upd_same];exact hx
    ·rw[gx _ _ e];exact HH.out.rng j⟩,(((((wQ.cH (p:=⟨R,0,none⟩) cy _).cH (p:=⟨R,1,none⟩) cy _).cH (p:=⟨R,2,none⟩) cy _).cH (p:=⟨R,3,none⟩) cy _).cH (p:=⟨R,4,none⟩) cy _)⟩
theorem sT (h:aj w C M m) (i:Nat) (hi:i<M.sz) (kind:Int) (c0:Value) (x:Int) (ok:Bool) (hx:0≤x∧x<18446744073709551616)
  (uA:∀ W,Fr C K1 LM w W→Calls Tryz.prog 168 #[.int .u64 (m i),c0] W fun e w'=>e= .returned (.tuple #[.int .u64 x,.bool ok])∧W=w'):
  Calls Tryz.prog 67 #[.pointer (some ⟨M.b,0,none⟩),.int .i64 kind,.int .i64 i,.func (.func 168) #[] #[c0]] w (uy C M (if ok then upd m i x else m) (.agg #[.int .i64 kind,.int .i64 i,.int .u64 (m i),.int .u64 x,.bool ok]) w):=by
 obtain⟨hs,hs1,hs2⟩:=h.sz
 obtain⟨n,k,aa,o,xx,q,hb⟩:=h.blk
 have hc:=hb.blk.cells
 have hf:=hb.blk.frees
 have hl:=hb.lt
 have HV:=Lib.hid (show ld M m (i:Int)=m i by unfold ld;rw[if_pos (by omega)];rfl)
 have d0:decide ((i:Int)<0)=false:=decide_eq_false (by omega)
 have d1:decide (M.sz≤i)=false:=decide_eq_false (by omega)
 have KD:=dG m hi
 have HH:=Lib.hid h
 have hrow:=h.row
 have hne:=h.ne
 have hne':=fun e=>hne (Eq.symm e)
 clear hs h
 go_enter Tryz.func67,Tryz.ntmps67
 go_wp2_with fail
 have hb1:=(hb.ar 3 (.int .i64 (wrap64 (n+1)))).alloc (.cells #[.int .i64 0,.int .i64 0,.int .u64 0,.int .u64 0,.bool false] 73)
 have hr1:=(hrow.far (p:=⟨M.b,3,none⟩) hne' (.int .i64 (wrap64 (n+1)))).alloc (.cells #[.int .i64 0,.int .i64 0,.int .u64 0,.int .u64 0,.bool false] 73)
 have hR:=bo.newAt (w.setCell ⟨M.b,3,none⟩ (.int .i64 (wrap64 (n+1)))) 73 #[.int .i64 0,.int .i64 0,.int .u64 0,.int .u64 0,.bool false] (g:=w.heap.size) (by simp)
 have hfr:=((Fr.refl C K1 LM w).ar hb rfl (by decide) 3 (.int .i64 (wrap64 (n+1)))).alloc (.cells #[.int .i64 0,.int .i64 0,.int .u64 0,.int .u64 0,.bool false] 73)
 generalize((w.setCell ⟨M.b,3,none⟩ (.int .i64 (wrap64 (n+1)))).alloc (.cells #[.int .i64 0,.int .i64 0,.int .u64 0,.int .u64 0,.bool false] 73))=w1 at *
 have hb1':SB w1 C 1 M.b 75 #[.int .i64 M.L.th,.int .i64 M.L.nd,.slice (some ⟨M.wb,0,none⟩) M.sz M.sz,.int .i64 (wrap64 (n+1)),.int .i64 k,.int .i64 aa,.int .u64 o,.int .u64 xx,.bool q]:=hb1
 clear hb1 hc hf hl
 have hm1:aj w1 C M m:=⟨HH.out.ok,⟨_,_,_,_,_,_,hb1'⟩,hr1,HH.out.rng⟩
 have fA:w.heap.size≠M.b:=fun e=>by have:=hb.lt;omega
 obtain⟨R,jf⟩:∃ R,w.heap.size=R:=⟨_,rfl⟩
 rw[jf] at hR fA
 have Bc:R≠M.wb:=fun e=>by have:=hrow.lt;omega
 have HR:=Lib.hid jf
 rw[jf]
 clear jf
 refine(gC hm1 (i:Int)).mono ?_
 rintro e w2 ⟨rfl,rfl⟩
 have hc:=hb1'.blk.cells
 have hf:=hb1'.blk.frees
 have hl:=hb1'.lt
 rw[HV.out]
 go_wp2_with fail
 have hb2:=((((hb1'.ar 4 (.int .i64 kind)).ar 5 (.int .i64 i)).ar 6 (.int .u64 (m i))).ar 7 (.int .u64 (m i))).ar 8 (.bool false)
 have hr2:=((((hr1.far (p:=⟨M.b,4,none⟩) hne' (.int .i64 kind)).far (p:=⟨M.b,5,none⟩) hne' (.int .i64 i)).far (p:=⟨M.b,6,none⟩) hne' (.int .u64 (m i))).far (p:=⟨M.b,7,none⟩) hne' (.int .u64 (m i))).far (p:=⟨M.b,8,none⟩) hne' (.bool false)
 have hR2:=((((hR.far (p:=⟨M.b,4,none⟩) fA (.int .i64 kind)).far (p:=⟨M.b,5,none⟩) fA (.int .i64 i)).far (p:=⟨M.b,6,none⟩) fA (.int .u64 (m i))).far (p:=⟨M.b,7,none⟩) fA (.int .u64 (m i))).far (p:=⟨M.b,8,none⟩) fA (.bool false)
 have hfr2:=((((hfr.ar hb1' rfl (by decide) 4 (.int .i64 kind)).ar (hb1'.ar 4 _) rfl (by decide) 5 (.int .i64 i)).ar ((hb1'.ar 4 _).ar 5 _) rfl (by decide) 6 (.int .u64 (m i))).ar (((hb1'.ar 4 _).ar 5 _).ar 6 _) rfl (by decide) 7 (.int .u64 (m i))).ar ((((hb1'.ar 4 _).ar 5 _).ar 6 _).ar 7 _) rfl (by decide) 8 (.bool false)
 generalize(((((w1.setCell ⟨M.b,4,none⟩ (.int .i64 kind)).setCell ⟨M.b,5,none⟩ (.int .i64 i)).setCell ⟨M.b,6,none⟩ (.int .u64 (m i))).setCell ⟨M.b,7,none⟩ (.int .u64 (m i))).setCell ⟨M.b,8,none⟩ (.bool false))=w2 at *
 have hb2':SB w2 C 1 M.b 75 #[.int .i64 M.L.th,.int .i64 M.L.nd,.slice (some ⟨M.wb,0,none⟩) M.sz M.sz,.int .i64 (wrap64 (n+1)),.int .i64 kind,.int .i64 i,.int .u64 (m i),.int .u64 (m i),.bool false]:=hb2
 clear hb2 hc hf hl hb1' hr1 hR hfr hm1
 ((with_reducible refine(uA w2 hfr2).mono ?_);rintro e w3 ⟨rfl,rfl⟩)
 have hc:=hb2'.blk.cells
 have hf:=hb2'.blk.frees
 have hl:=hb2'.lt
 have hcw:w2.cell? ⟨M.wb,i,none⟩=some (.int .u64 (m i)):=(hr2.blk.cell i).trans (dG m hi)
 have hfw:=hr2.blk.frozen i
 have FM:=hr2.lt
 have hcR:=hR2.cells
 have FN:=hR2.frees
 have FO:=hR2.lt
 have hb3:=(hb2'.ar 7 (.int .u64 x)).ar 8 (.bool ok)
 have hr3:=(hr2.far (p:=⟨M.b,7,none⟩) hne' (.int .u64 x)).far (p:=⟨M.b,8,none⟩) hne' (.bool ok)
 have hfr3:=(hfr2.ar hb2' rfl (by decide) 7 (.int .u64 x)).ar (hb2'.ar 7 _) rfl (by decide) 8 (.bool ok)
 have DI:=(hR2.far (p:=⟨M.b,7,none⟩) fA (.int .u64 x)).far (p:=⟨M.b,8,none⟩) fA (.bool ok)
 have cy:w.heap.size≤R:=by have:=HR.out;omega
 have cz:M.b≠R:=fun e=>fA (Eq.symm e)
 have cA:M.wb≠R:=fun e=>Bc (Eq.symm e)
 cases ok
 ·go_wp2_with fail
  refine bodyPost_ret (v:= .agg #[.int .i64 kind,.int .i64 i,.int .u64 (m i),.int .u64 x,.bool false]) ?_ rfl ?_
  ·simp[results,Tryz.results67,go_sem,hcR]
  ·exact⟨rfl,⟨HH.out.ok,⟨_,_,_,_,_,_,(((((hb3.far (p:=⟨R,0,none⟩) cz _).far (p:=⟨R,1,none⟩) cz _).far (p:=⟨R,2,none⟩) cz _).far (p:=⟨R,3,none⟩) cz _).far (p:=⟨R,4,none⟩) cz _)⟩,(((((hr3.far (p:=⟨R,0,none⟩) cA _).far (p:=⟨R,1,none⟩) cA _).far (p:=⟨R,2,none⟩) cA _).far (p:=⟨R,3,none⟩) cA _).far (p:=⟨R,4,none⟩) cA _),HH.out.rng⟩,(((((hfr3.cH (p:=⟨R,0,none⟩) cy _).cH (p:=⟨R,1,none⟩) cy _).cH (p:=⟨R,2,none⟩) cy _).cH (p:=⟨R,3,none⟩) cy _).cH (p:=⟨R,4,none⟩) cy _)⟩
 ·have hb4:=hb3.far (p:=⟨M.wb,i,none⟩) hne (.int .u64 x)
  have hr4:=hr3.ar i (.int .u64 x)
  rw[je] at hr4
  have wQ:=hfr3.ar hr3 rfl (by decide) i (.int .u64 x)
  go_wp2_with fail
  refine bodyPost_ret (v:= .agg #[.int .i64 kind,.int .i64 i,.int .u64 (m i),.int .u64 x,.bool true]) ?_ rfl ?_
  ·simp[results,Tryz.results67,go_sem,hcR]
  ·exact⟨rfl,⟨HH.out.ok,⟨_,_,_,_,_,_,(((((hb4.far (p:=⟨R,0,none⟩) cz _).far (p:=⟨R,1,none⟩) cz _).far (p:=⟨R,2,none⟩) cz _).far (p:=⟨R,3,none⟩) cz _).far (p:=⟨R,4,none⟩) cz _)⟩,(((((hr4.far (p:=⟨R,0,none⟩) cA _).far (p:=⟨R,1,none⟩) cA _).far (p:=⟨R,2,none⟩) cA _).far (p:=⟨R,3,none⟩) cA _).far (p:=⟨R,4,none⟩) cA _),fun j=>by
    by_cases e:j=i
    ·subst e;rw[upd_same];exact hx
    ·rw[gx _ _ e];exact HH.out.rng j⟩,(((((wQ.cH (p:=⟨R,0,none⟩) cy _).cH (p:=⟨R,1,none⟩) cy _).cH (p:=⟨R,2,none⟩) cy _).cH (p:=⟨R,3,none⟩) cy _).cH (p:=⟨R,4,none⟩) cy _)⟩
theorem wR (h:aj w C M m) (i:Nat) (hi:i<M.sz) (kind:Int) (c0:Value) (c1:Value) (x:Int) (ok:Bool) (hx:0≤x∧x<18446744073709551616)
  (uA:∀ W,Fr C K1 LM w W→Calls Tryz.prog 165 #[.int .u64 (m i),c0,c1] W fun e w'=>e= .returned (.tuple #[.int .u64 x,.bool ok])∧(∃ n,w'=W.drewN n)):
  Calls Tryz.prog 67 #[.pointer (some ⟨M.b,0,none⟩),.int .i64 kind,.int .i64 i,.func (.func 165) #[] #[c0,c1]] w (uy C M (if ok then upd m i x else m) (.agg #[.int .i64 kind,.int .i64 i,.int .u64 (m i),.int .u64 x,.bool ok]) w):=by
 obtain⟨hs,hs1,hs2⟩:=h.sz
 obtain⟨n,k,aa,o,xx,q,hb⟩:=h.blk
 have hc:=hb.blk.cells
 have hf:=hb.blk.frees
 have hl:=hb.lt
 have HV:=Lib.hid (show ld M m (i:Int)=m i by unfold ld;rw[if_pos (by omega)];rfl)
 have d0:decide ((i:Int)<0)=false:=decide_eq_false (by omega)
 have d1:decide (M.sz≤i)=false:=decide_eq_false (by omega)
 have KD:=dG m hi
 have HH:=Lib.hid h
 have hrow:=h.row
 have hne:=h.ne
 have hne':=fun e=>hne (Eq.symm e)
 clear hs h
 go_enter Tryz.func67,Tryz.ntmps67
 go_wp2_with fail
 have hb1:=(hb.ar 3 (.int .i64 (wrap64 (n+1)))).alloc (.cells #[.int .i64 0,.int .i64 0,.int .u64 0,.int .u64 0,.bool false] 73)
 have hr1:=(hrow.far (p:=⟨M.b,3,none⟩) hne' (.int .i64 (wrap64 (n+1)))).alloc (.cells #[.int .i64 0,.int .i64 0,.int .u64 0,.int .u64 0,.bool false] 73)
 have hR:=bo.newAt (w.setCell ⟨M.b,3,none⟩ (.int .i64 (wrap64 (n+1)))) 73 #[.int .i64 0,.int .i64 0,.int .u64 0,.int .u64 0,.bool false] (g:=w.heap.size) (by simp)
 have hfr:=((Fr.refl C K1 LM w).ar hb rfl (by decide) 3 (.int .i64 (wrap64 (n+1)))).alloc (.cells #[.int .i64 0,.int .i64 0,.int .u64 0,.int .u64 0,.bool false] 73)
 generalize((w.setCell ⟨M.b,3,none⟩ (.int .i64 (wrap64 (n+1)))).alloc (.cells #[.int .i64 0,.int .i64 0,.int .u64 0,.int .u64 0,.bool false] 73))=w1 at *
 have hb1':SB w1 C 1 M.b 75 #[.int .i64 M.L.th,.int .i64 M.L.nd,.slice (some ⟨M.wb,0,none⟩) M.sz M.sz,.int .i64 (wrap64 (n+1)),.int .i64 k,.int .i64 aa,.int .u64 o,.int .u64 xx,.bool q]:=hb1
 clear hb1 hc hf hl
 have hm1:aj w1 C M m:=⟨HH.out.ok,⟨_,_,_,_,_,_,hb1'⟩,hr1,HH.out.rng⟩
 have fA:w.heap.size≠M.b:=fun e=>by have:=hb.lt;omega
 obtain⟨R,jf⟩:∃ R,w.heap.size=R:=⟨_,rfl⟩
 rw[jf] at hR fA
 have Bc:R≠M.wb:=fun e=>by have:=hrow.lt;omega
 have HR:=Lib.hid jf
 rw[jf]
 clear jf
 refine(gC hm1 (i:Int)).mono ?_
 rintro e w2 ⟨rfl,rfl⟩
 have hc:=hb1'.blk.cells
 have hf:=hb1'.blk.frees
 have hl:=hb1'.lt
 rw[HV.out]
 go_wp2_with fail
 have hb2:=((((hb1'.ar 4 (.int .i64 kind)).ar 5 (.int .i64 i)).ar 6 (.int .u64 (m i))).ar 7 (.int .u64 (m i))).ar 8 (.bool false)
 have hr2:=((((hr1.far (p:=⟨M.b,4,none⟩) hne' (.int .i64 kind)).far (p:=⟨M.b,5,none⟩) hne' (.int .i64 i)).far (p:=⟨M.b,6,none⟩) hne' (.int .u64 (m i))).far (p:=⟨M.b,7,none⟩) hne' (.int .u64 (m i))).far (p:=⟨M.b,8,none⟩) hne' (.bool false)
 have hR2:=((((hR.far (p:=⟨M.b,4,none⟩) fA (.int .i64 kind)).far (p:=⟨M.b,5,none⟩) fA (.int .i64 i)).far (p:=⟨M.b,6,none⟩) fA (.int .u64 (m i))).far (p:=⟨M.b,7,none⟩) fA (.int .u64 (m i))).far (p:=⟨M.b,8,none⟩) fA (.bool false)
 have hfr2:=((((hfr.ar hb1' rfl (by decide) 4 (.int .i64 kind)).ar (hb1'.ar 4 _) rfl (by decide) 5 (.int .i64 i)).ar ((hb1'.ar 4 _).ar 5 _) rfl (by decide) 6 (.int .u64 (m i))).ar (((hb1'.ar 4 _).ar 5 _).ar 6 _) rfl (by decide) 7 (.int .u64 (m i))).ar ((((hb1'.ar 4 _).ar 5 _).ar 6 _).ar 7 _) rfl (by decide) 8 (.bool false)
 generalize(((((w1.setCell ⟨M.b,4,none⟩ (.int .i64 kind)).setCell ⟨M.b,5,none⟩ (.int .i64 i)).setCell ⟨M.b,6,none⟩ (.int .u64 (m i))).setCell ⟨M.b,7,none⟩ (.int .u64 (m i))).setCell ⟨M.b,8,none⟩ (.bool false))=w2 at *
 have hb2':SB w2 C 1 M.b 75 #[.int .i64 M.L.th,.int .i64 M.L.nd,.slice (some ⟨M.wb,0,none⟩) M.sz M.sz,.int .i64 (wrap64 (n+1)),.int .i64 kind,.int .i64 i,.int .u64 (m i),.int .u64 (m i),.bool false]:=hb2
 clear hb2 hc hf hl hb1' hr1 hR hfr hm1
 ((with_reducible refine(uA w2 hfr2).mono ?_);rintro e w3 ⟨rfl,n3,rfl⟩)
 replace hb2':=hb2'.drewN n3
 replace hr2:=hr2.drewN n3
 replace hR2:=hR2.drewN n3
 replace hfr2:=hfr2.drewN n3
 clear uA
 generalize w2.drewN n3=w2 at *
 have hc:=hb2'.blk.cells
 have hf:=hb2'.blk.frees
 have hl:=hb2'.lt
 have hcw:w2.cell? ⟨M.wb,i,none⟩=some (.int .u64 (m i)):=(hr2.blk.cell i).trans (dG m hi)
 have hfw:=hr2.blk.frozen i
 have FM:=hr2.lt
 have hcR:=hR2.cells
 have FN:=hR2.frees
 have FO:=hR2.lt
 have hb3:=(hb2'.ar 7 (.int .u64 x)).ar 8 (.bool ok)
 have hr3:=(hr2.far (p:=⟨M.b,7,none⟩) hne' (.int .u64 x)).far (p:=⟨M.b,8,none⟩) hne' (.bool ok)
 have hfr3:=(hfr2.ar hb2' rfl (by decide) 7 (.int .u64 x)).ar (hb2'.ar 7 _) rfl (by decide) 8 (.bool ok)
 have DI:=(hR2.far (p:=⟨M.b,7,none⟩) fA (.int .u64 x)).far (p:=⟨M.b,8,none⟩) fA (.bool ok)
 have cy:w.heap.size≤R:=by have:=HR.out;omega
 have cz:M.b≠R:=fun e=>fA (Eq.symm e)
 have cA:M.wb≠R:=fun e=>Bc (Eq.symm e)
 cases ok
 ·go_wp2_with fail
  refine bodyPost_ret (v:= .agg #[.int .i64 kind,.int .i64 i,.int .u64 (m i),.int .u64 x,.bool false]) ?_ rfl ?_
  ·simp[results,Tryz.results67,go_sem,hcR]
  ·exact⟨rfl,⟨HH.out.ok,⟨_,_,_,_,_,_,(((((hb3.far (p:=⟨R,0,none⟩) cz _).far (p:=⟨R,1,none⟩) cz _).far (p:=⟨R,2,none⟩) cz _).far (p:=⟨R,3,none⟩) cz _).far (p:=⟨R,4,none⟩) cz _)⟩,(((((hr3.far (p:=⟨R,0,none⟩) cA _).far (p:=⟨R,1,none⟩) cA _).far (p:=⟨R,2,none⟩) cA _).far (p:=⟨R,3,none⟩) cA _).far (p:=⟨R,4,none⟩) cA _),HH.out.rng⟩,(((((hfr3.cH (p:=⟨R,0,none⟩) cy _).cH (p:=⟨R,1,none⟩) cy _).cH (p:=⟨R,2,none⟩) cy _).cH (p:=⟨R,3,none⟩) cy _).cH (p:=⟨R,4,none⟩) cy _)⟩
 ·have hb4:=hb3.far (p:=⟨M.wb,i,none⟩) hne (.int .u64 x)
  have hr4:=hr3.ar i (.int .u64 x)
  rw[je] at hr4
  have wQ:=hfr3.ar hr3 rfl (by decide) i (.int .u64 x)
  go_wp2_with fail
  refine bodyPost_ret (v:= .agg #[.int .i64 kind,.int .i64 i,.int .u64 (m i),.int .u64 x,.bool true]) ?_ rfl ?_
  ·simp[results,Tryz.results67,go_sem,hcR]
  ·exact⟨rfl,⟨HH.out.ok,⟨_,_,_,_,_,_,(((((hb4.far (p:=⟨R,0,none⟩) cz _).far (p:=⟨R,1,none⟩) cz _).far (p:=⟨R,2,none⟩) cz _).far (p:=⟨R,3,none⟩) cz _).far (p:=⟨R,4,none⟩) cz _)⟩,(((((hr4.far (p:=⟨R,0,none⟩) cA _).far (p:=⟨R,1,none⟩) cA _).far (p:=⟨R,2,none⟩) cA _).far (p:=⟨R,3,none⟩) cA _).far (p:=⟨R,4,none⟩) cA _),fun j=>by
    by_cases e:j=i
    ·subst e;rw[upd_same];exact hx
    ·rw[gx _ _ e];exact HH.out.rng j⟩,(((((wQ.cH (p:=⟨R,0,none⟩) cy _).cH (p:=⟨R,1,none⟩) cy _).cH (p:=⟨R,2,none⟩) cy _).cH (p:=⟨R,3,none⟩) cy _).cH (p:=⟨R,4,none⟩) cy _)⟩
theorem wS (h:aj w C M m) (i:Nat) (hi:i<M.sz) (kind:Int) (c0:Value) (x:Int) (ok:Bool) (hx:0≤x∧x<18446744073709551616)
  (uA:∀ W,Fr C K1 LM w W→Calls Tryz.prog 169 #[.int .u64 (m i),c0] W fun e w'=>e= .returned (.tuple #[.int .u64 x,.bool ok])∧W=w'):
  Calls Tryz.prog 67 #[.pointer (some ⟨M.b,0,none⟩),.int .i64 kind,.int .i64 i,.func (.func 169) #[] #[c0]] w (uy C M (if ok then upd m i x else m) (.agg #[.int .i64 kind,.int .i64 i,.int .u64 (m i),.int .u64 x,.bool ok]) w):=by
 obtain⟨hs,hs1,hs2⟩:=h.sz
 obtain⟨n,k,aa,o,xx,q,hb⟩:=h.blk
 have hc:=hb.blk.cells
 have hf:=hb.blk.frees
 have hl:=hb.lt
 have HV:=Lib.hid (show ld M m (i:Int)=m i by unfold ld;rw[if_pos (by omega)];rfl)
 have d0:decide ((i:Int)<0)=false:=decide_eq_false (by omega)
 have d1:decide (M.sz≤i)=false:=decide_eq_false (by omega)
 have KD:=dG m hi
 have HH:=Lib.hid h
 have hrow:=h.row
 have hne:=h.ne
 have hne':=fun e=>hne (Eq.symm e)
 clear hs h
 go_enter Tryz.func67,Tryz.ntmps67
 go_wp2_with fail
 have hb1:=(hb.ar 3 (.int .i64 (wrap64 (n+1)))).alloc (.cells #[.int .i64 0,.int .i64 0,.int .u64 0,.int .u64 0,.bool false] 73)
 have hr1:=(hrow.far (p:=⟨M.b,3,none⟩) hne' (.int .i64 (wrap64 (n+1)))).alloc (.cells #[.int .i64 0,.int .i64 0,.int .u64 0,.int .u64 0,.bool false] 73)
 have hR:=bo.newAt (w.setCell ⟨M.b,3,none⟩ (.int .i64 (wrap64 (n+1)))) 73 #[.int .i64 0,.int .i64 0,.int .u64 0,.int .u64 0,.bool false] (g:=w.heap.size) (by simp)
 have hfr:=((Fr.refl C K1 LM w).ar hb rfl (by decide) 3 (.int .i64 (wrap64 (n+1)))).alloc (.cells #[.int .i64 0,.int .i64 0,.int .u64 0,.int .u64 0,.bool false] 73)
 generalize((w.setCell ⟨M.b,3,none⟩ (.int .i64 (wrap64 (n+1)))).alloc (.cells #[.int .i64 0,.int .i64 0,.int .u64 0,.int .u64 0,.bool false] 73))=w1 at *
 have hb1':SB w1 C 1 M.b 75 #[.int .i64 M.L.th,.int .i64 M.L.nd,.slice (some ⟨M.wb,0,none⟩) M.sz M.sz,.int .i64 (wrap64 (n+1)),.int .i64 k,.int .i64 aa,.int .u64 o,.int .u64 xx,.bool q]:=hb1
 clear hb1 hc hf hl
 have hm1:aj w1 C M m:=⟨HH.out.ok,⟨_,_,_,_,_,_,hb1'⟩,hr1,HH.out.rng⟩
 have fA:w.heap.size≠M.b:=fun e=>by have:=hb.lt;omega
 obtain⟨R,jf⟩:∃ R,w.heap.size=R:=⟨_,rfl⟩
 rw[jf] at hR fA
 have Bc:R≠M.wb:=fun e=>by have:=hrow.lt;omega
 have HR:=Lib.hid jf
 rw[jf]
 clear jf
 refine(gC hm1 (i:Int)).mono ?_
 rintro e w2 ⟨rfl,rfl⟩
 have hc:=hb1'.blk.cells
 have hf:=hb1'.blk.frees
 have hl:=hb1'.lt
 rw[HV.out]
 go_wp2_with fail
 have hb2:=((((hb1'.ar 4 (.int .i64 kind)).ar 5 (.int .i64 i)).ar 6 (.int .u64 (m i))).ar 7 (.int .u64 (m i))).ar 8 (.bool false)
 have hr2:=((((hr1.far (p:=⟨M.b,4,none⟩) hne' (.int .i64 kind)).far (p:=⟨M.b,5,none⟩) hne' (.int .i64 i)).far (p:=⟨M.b,6,none⟩) hne' (.int .u64 (m i))).far (p:=⟨M.b,7,none⟩) hne' (.int .u64 (m i))).far (p:=⟨M.b,8,none⟩) hne' (.bool false)
 have hR2:=((((hR.far (p:=⟨M.b,4,none⟩) fA (.int .i64 kind)).far (p:=⟨M.b,5,none⟩) fA (.int .i64 i)).far (p:=⟨M.b,6,none⟩) fA (.int .u64 (m i))).far (p:=⟨M.b,7,none⟩) fA (.int .u64 (m i))).far (p:=⟨M.b,8,none⟩) fA (.bool false)
 have hfr2:=((((hfr.ar hb1' rfl (by decide) 4 (.int .i64 kind)).ar (hb1'.ar 4 _) rfl (by decide) 5 (.int .i64 i)).ar ((hb1'.ar 4 _).ar 5 _) rfl (by decide) 6 (.int .u64 (m i))).ar (((hb1'.ar 4 _).ar 5 _).ar 6 _) rfl (by decide) 7 (.int .u64 (m i))).ar ((((hb1'.ar 4 _).ar 5 _).ar 6 _).ar 7 _) rfl (by decide) 8 (.bool false)
 generalize(((((w1.setCell ⟨M.b,4,none⟩ (.int .i64 kind)).setCell ⟨M.b,5,none⟩ (.int .i64 i)).setCell ⟨M.b,6,none⟩ (.int .u64 (m i))).setCell ⟨M.b,7,none⟩ (.int .u64 (m i))).setCell ⟨M.b,8,none⟩ (.bool false))=w2 at *
 have hb2':SB w2 C 1 M.b 75 #[.int .i64 M.L.th,.int .i64 M.L.nd,.slice (some ⟨M.wb,0,none⟩) M.sz M.sz,.int .i64 (wrap64 (n+1)),.int .i64 kind,.int .i64 i,.int .u64 (m i),.int .u64 (m i),.bool false]:=hb2
 clear hb2 hc hf hl hb1' hr1 hR hfr hm1
 ((with_reducible refine(uA w2 hfr2).mono ?_);rintro e w3 ⟨rfl,rfl⟩)
 have hc:=hb2'.blk.cells
 have hf:=hb2'.blk.frees
 have hl:=hb2'.lt
 have hcw:w2.cell? ⟨M.wb,i,none⟩=some (.int .u64 (m i)):=(hr2.blk.cell i).trans (dG m hi)
 have hfw:=hr2.blk.frozen i
 have FM:=hr2.lt
 have hcR:=hR2.cells
 have FN:=hR2.frees
 have FO:=hR2.lt
 have hb3:=(hb2'.ar 7 (.int .u64 x)).ar 8 (.bool ok)
 have hr3:=(hr2.far (p:=⟨M.b,7,none⟩) hne' (.int .u64 x)).far (p:=⟨M.b,8,none⟩) hne' (.bool ok)
 have hfr3:=(hfr2.ar hb2' rfl (by decide) 7 (.int .u64 x)).ar (hb2'.ar 7 _) rfl (by decide) 8 (.bool ok)
 have DI:=(hR2.far (p:=⟨M.b,7,none⟩) fA (.int .u64 x)).far (p:=⟨M.b,8,none⟩) fA (.bool ok)
 have cy:w.heap.size≤R:=by have:=HR.out;omega
 have cz:M.b≠R:=fun e=>fA (Eq.symm e)
 have cA:M.wb≠R:=fun e=>Bc (Eq.symm e)
 cases ok
 ·go_wp2_with fail
  refine bodyPost_ret (v:= .agg #[.int .i64 kind,.int .i64 i,.int .u64 (m i),.int .u64 x,.bool false]) ?_ rfl ?_
  ·simp[results,Tryz.results67,go_sem,hcR]
  ·exact⟨rfl,⟨HH.out.ok,⟨_,_,_,_,_,_,(((((hb3.far (p:=⟨R,0,none⟩) cz _).far (p:=⟨R,1,none⟩) cz _).far (p:=⟨R,2,none⟩) cz _).far (p:=⟨R,3,none⟩) cz _).far (p:=⟨R,4,none⟩) cz _)⟩,(((((hr3.far (p:=⟨R,0,none⟩) cA _).far (p:=⟨R,1,none⟩) cA _).far (p:=⟨R,2,none⟩) cA _).far (p:=⟨R,3,none⟩) cA _).far (p:=⟨R,4,none⟩) cA _),HH.out.rng⟩,(((((hfr3.cH (p:=⟨R,0,none⟩) cy _).cH (p:=⟨R,1,none⟩) cy _).cH (p:=⟨R,2,none⟩) cy _).cH (p:=⟨R,3,none⟩) cy _).cH (p:=⟨R,4,none⟩) cy _)⟩
 ·have hb4:=hb3.far (p:=⟨M.wb,i,none⟩) hne (.int .u64 x)
  have hr4:=hr3.ar i (.int .u64 x)
  rw[je] at hr4
  have wQ:=hfr3.ar hr3 rfl (by decide) i (.int .u64 x)
  go_wp2_with fail
  refine bodyPost_ret (v:= .agg #[.int .i64 kind,.int .i64 i,.int .u64 (m i),.int .u64 x,.bool true]) ?_ rfl ?_
  ·simp[results,Tryz.results67,go_sem,hcR]
  ·exact⟨rfl,⟨HH.out.ok,⟨_,_,_,_,_,_,(((((hb4.far (p:=⟨R,0,none⟩) cz _).far (p:=⟨R,1,none⟩) cz _).far (p:=⟨R,2,none⟩) cz _).far (p:=⟨R,3,none⟩) cz _).far (p:=⟨R,4,none⟩) cz _)⟩,(((((hr4.far (p:=⟨R,0,none⟩) cA _).far (p:=⟨R,1,none⟩) cA _).far (p:=⟨R,2,none⟩) cA _).far (p:=⟨R,3,none⟩) cA _).far (p:=⟨R,4,none⟩) cA _),fun j=>by
    by_cases e:j=i
    ·subst e;rw[upd_same];exact hx
    ·rw[gx _ _ e];exact HH.out.rng j⟩,(((((wQ.cH (p:=⟨R,0,none⟩) cy _).cH (p:=⟨R,1,none⟩) cy _).cH (p:=⟨R,2,none⟩) cy _).cH (p:=⟨R,3,none⟩) cy _).cH (p:=⟨R,4,none⟩) cy _)⟩
theorem oA (h:aj w C M m) (a:Int) (ha:a<0) (kind:Int) (fv:Value):
  Calls Tryz.prog 67 #[.pointer (some ⟨M.b,0,none⟩),.int .i64 kind,.int .i64 a,fv] w (uy C M m (.agg #[.int .i64 kind,.int .i64 a,.int .u64 0,.int .u64 0,.bool false]) w):=by
 obtain⟨hs,hs1,hs2⟩:=h.sz
 obtain⟨n,k,aa,o,xx,q,hb⟩:=h.blk
 have hc:=hb.blk.cells
 have hf:=hb.blk.frees
 have hl:=hb.lt
 have HV:=Lib.hid (show ld M m a=0 by unfold ld;rw[if_neg (by omega)])
 have d0:decide (a<0)=true:=decide_eq_true ha
 have HH:=Lib.hid h
 have hrow:=h.row
 have hne:=h.ne
 have hne':=fun e=>hne (Eq.symm e)
 clear hs h
 go_enter Tryz.func67,Tryz.ntmps67
 go_wp2_with fail
 have hb1:=(hb.ar 3 (.int .i64 (wrap64 (n+1)))).alloc (.cells #[.int .i64 0,.int .i64 0,.int .u64 0,.int .u64 0,.bool false] 73)
 have hr1:=(hrow.far (p:=⟨M.b,3,none⟩) hne' (.int .i64 (wrap64 (n+1)))).alloc (.cells #[.int .i64 0,.int .i64 0,.int .u64 0,.int .u64 0,.bool false] 73)
 have hR:=bo.newAt (w.setCell ⟨M.b,3,none⟩ (.int .i64 (wrap64 (n+1)))) 73 #[.int .i64 0,.int .i64 0,.int .u64 0,.int .u64 0,.bool false] (g:=w.heap.size) (by simp)
 have hfr:=((Fr.refl C K1 LM w).ar hb rfl (by decide) 3 (.int .i64 (wrap64 (n+1)))).alloc (.cells #[.int .i64 0,.int .i64 0,.int .u64 0,.int .u64 0,.bool false] 73)
 generalize((w.setCell ⟨M.b,3,none⟩ (.int .i64 (wrap64 (n+1)))).alloc (.cells #[.int .i64 0,.int .i64 0,.int .u64 0,.int .u64 0,.bool false] 73))=w1 at *
 have hb1':SB w1 C 1 M.b 75 #[.int .i64 M.L.th,.int .i64 M.L.nd,.slice (some ⟨M.wb,0,none⟩) M.sz M.sz,.int .i64 (wrap64 (n+1)),.int .i64 k,.int .i64 aa,.int .u64 o,.int .u64 xx,.bool q]:=hb1
 clear hb1 hc hf hl
 have hm1:aj w1 C M m:=⟨HH.out.ok,⟨_,_,_,_,_,_,hb1'⟩,hr1,HH.out.rng⟩
 have fA:w.heap.size≠M.b:=fun e=>by have:=hb.lt;omega
 obtain⟨R,jf⟩:∃ R,w.heap.size=R:=⟨_,rfl⟩
 rw[jf] at hR fA
 have Bc:R≠M.wb:=fun e=>by have:=hrow.lt;omega
 have HR:=Lib.hid jf
 rw[jf]
 clear jf
 refine(gC hm1 a).mono ?_
 rintro e w2 ⟨rfl,rfl⟩
 have hc:=hb1'.blk.cells
 have hf:=hb1'.blk.frees
 have hl:=hb1'.lt
 rw[HV.out]
 go_upto_region 6 with (fail)
 have hb2:=((((hb1'.ar 4 (.int .i64 kind)).ar 5 (.int .i64 a)).ar 6 (.int .u64 0)).ar 7 (.int .u64 0)).ar 8 (.bool false)
 have hr2:=((((hr1.far (p:=⟨M.b,4,none⟩) hne' (.int .i64 kind)).far (p:=⟨M.b,5,none⟩) hne' (.int .i64 a)).far (p:=⟨M.b,6,none⟩) hne' (.int .u64 0)).far (p:=⟨M.b,7,none⟩) hne' (.int .u64 0)).far (p:=⟨M.b,8,none⟩) hne' (.bool false)
 have hfr2:=((((hfr.ar hb1' rfl (by decide) 4 (.int .i64 kind)).ar (hb1'.ar 4 _) rfl (by decide) 5 (.int .i64 a)).ar ((hb1'.ar 4 _).ar 5 _) rfl (by decide) 6 (.int .u64 0)).ar (((hb1'.ar 4 _).ar 5 _).ar 6 _) rfl (by decide) 7 (.int .u64 0)).ar ((((hb1'.ar 4 _).ar 5 _).ar 6 _).ar 7 _) rfl (by decide) 8 (.bool false)
 have hR2:=((((hR.far (p:=⟨M.b,4,none⟩) fA (.int .i64 kind)).far (p:=⟨M.b,5,none⟩) fA (.int .i64 a)).far (p:=⟨M.b,6,none⟩) fA (.int .u64 0)).far (p:=⟨M.b,7,none⟩) fA (.int .u64 0)).far (p:=⟨M.b,8,none⟩) fA (.bool false)
 generalize(((((w1.setCell ⟨M.b,4,none⟩ (.int .i64 kind)).setCell ⟨M.b,5,none⟩ (.int .i64 a)).setCell ⟨M.b,6,none⟩ (.int .u64 0)).setCell ⟨M.b,7,none⟩ (.int .u64 0)).setCell ⟨M.b,8,none⟩ (.bool false))=w2 at *
 have hb2':SB w2 C 1 M.b 75 #[.int .i64 M.L.th,.int .i64 M.L.nd,.slice (some ⟨M.wb,0,none⟩) M.sz M.sz,.int .i64 (wrap64 (n+1)),.int .i64 kind,.int .i64 a,.int .u64 0,.int .u64 0,.bool false]:=hb2
 clear hb2 hc hf hl hb1' hr1 hR hfr hm1
 have hc:=hb2'.blk.cells
 have hf:=hb2'.blk.frees
 have hl:=hb2'.lt
 have hcR:=hR2.cells
 have FN:=hR2.frees
 have FO:=hR2.lt
 have cy:w.heap.size≤R:=by have:=HR.out;omega
 have cz:M.b≠R:=fun e=>fA (Eq.symm e)
 have cA:M.wb≠R:=fun e=>Bc (Eq.symm e)
 go_wp2_with fail
 refine bodyPost_ret (v:= .agg #[.int .i64 kind,.int .i64 a,.int .u64 0,.int .u64 0,.bool false]) ?_ rfl ?_
 ·simp[results,Tryz.results67,go_sem,hcR]
 ·exact⟨rfl,⟨HH.out.ok,⟨_,_,_,_,_,_,(((((hb2'.far (p:=⟨R,0,none⟩) cz _).far (p:=⟨R,1,none⟩) cz _).far (p:=⟨R,2,none⟩) cz _).far (p:=⟨R,3,none⟩) cz _).far (p:=⟨R,4,none⟩) cz _)⟩,(((((hr2.far (p:=⟨R,0,none⟩) cA _).far (p:=⟨R,1,none⟩) cA _).far (p:=⟨R,2,none⟩) cA _).far (p:=⟨R,3,none⟩) cA _).far (p:=⟨R,4,none⟩) cA _),HH.out.rng⟩,(((((hfr2.cH (p:=⟨R,0,none⟩) cy _).cH (p:=⟨R,1,none⟩) cy _).cH (p:=⟨R,2,none⟩) cy _).cH (p:=⟨R,3,none⟩) cy _).cH (p:=⟨R,4,none⟩) cy _)⟩
theorem lX (h:aj w C M m) (a:Int) (ha:(M.sz:Int)≤a) (kind:Int) (fv:Value):
  Calls Tryz.prog 67 #[.pointer (some ⟨M.b,0,none⟩),.int .i64 kind,.int .i64 a,fv] w (uy C M m (.agg #[.int .i64 kind,.int .i64 a,.int .u64 0,.int .u64 0,.bool false]) w):=by
 obtain⟨hs,hs1,hs2⟩:=h.sz
 obtain⟨n,k,aa,o,xx,q,hb⟩:=h.blk
 have hc:=hb.blk.cells
 have hf:=hb.blk.frees
 have hl:=hb.lt
 have HV:=Lib.hid (show ld M m a=0 by unfold ld;rw[if_neg (by omega)])
 have d0:decide (a<0)=false:=decide_eq_false (by omega)
 have HH:=Lib.hid h
 have hrow:=h.row
 have hne:=h.ne
 have hne':=fun e=>hne (Eq.symm e)
 clear hs h
 go_enter Tryz.func67,Tryz.ntmps67
 go_wp2_with fail
 have hb1:=(hb.ar 3 (.int .i64 (wrap64 (n+1)))).alloc (.cells #[.int .i64 0,.int .i64 0,.int .u64 0,.int .u64 0,.bool false] 73)
 have hr1:=(hrow.far (p:=⟨M.b,3,none⟩) hne' (.int .i64 (wrap64 (n+1)))).alloc (.cells #[.int .i64 0,.int .i64 0,.int .u64 0,.int .u64 0,.bool false] 73)
 have hR:=bo.newAt (w.setCell ⟨M.b,3,none⟩ (.int .i64 (wrap64 (n+1)))) 73 #[.int .i64 0,.int .i64 0,.int .u64 0,.int .u64 0,.bool false] (g:=w.heap.size) (by simp)
 have hfr:=((Fr.refl C K1 LM w).ar hb rfl (by decide) 3 (.int .i64 (wrap64 (n+1)))).alloc (.cells #[.int .i64 0,.int .i64 0,.int .u64 0,.int .u64 0,.bool false] 73)
 generalize((w.setCell ⟨M.b,3,none⟩ (.int .i64 (wrap64 (n+1)))).alloc (.cells #[.int .i64 0,.int .i64 0,.int .u64 0,.int .u64 0,.bool false] 73))=w1 at *
 have hb1':SB w1 C 1 M.b 75 #[.int .i64 M.L.th,.int .i64 M.L.nd,.slice (some ⟨M.wb,0,none⟩) M.sz M.sz,.int .i64 (wrap64 (n+1)),.int .i64 k,.int .i64 aa,.int .u64 o,.int .u64 xx,.bool q]:=hb1
 clear hb1 hc hf hl
 have hm1:aj w1 C M m:=⟨HH.out.ok,⟨_,_,_,_,_,_,hb1'⟩,hr1,HH.out.rng⟩
 have fA:w.heap.size≠M.b:=fun e=>by have:=hb.lt;omega
 obtain⟨R,jf⟩:∃ R,w.heap.size=R:=⟨_,rfl⟩
 rw[jf] at hR fA
 have Bc:R≠M.wb:=fun e=>by have:=hrow.lt;omega
 have HR:=Lib.hid jf
 rw[jf]
 clear jf
 refine(gC hm1 a).mono ?_
 rintro e w2 ⟨rfl,rfl⟩
 have hc:=hb1'.blk.cells
 have hf:=hb1'.blk.frees
 have hl:=hb1'.lt
 rw[HV.out]
 go_upto_region 6 with (fail)
 have hb2:=((((hb1'.ar 4 (.int .i64 kind)).ar 5 (.int .i64 a)).ar 6 (.int .u64 0)).ar 7 (.int .u64 0)).ar 8 (.bool false)
 have hr2:=((((hr1.far (p:=⟨M.b,4,none⟩) hne' (.int .i64 kind)).far (p:=⟨M.b,5,none⟩) hne' (.int .i64 a)).far (p:=⟨M.b,6,none⟩) hne' (.int .u64 0)).far (p:=⟨M.b,7,none⟩) hne' (.int .u64 0)).far (p:=⟨M.b,8,none⟩) hne' (.bool false)
 have hfr2:=((((hfr.ar hb1' rfl (by decide) 4 (.int .i64 kind)).ar (hb1'.ar 4 _) rfl (by decide) 5 (.int .i64 a)).ar ((hb1'.ar 4 _).ar 5 _) rfl (by decide) 6 (.int .u64 0)).ar (((hb1'.ar 4 _).ar 5 _).ar 6 _) rfl (by decide) 7 (.int .u64 0)).ar ((((hb1'.ar 4 _).ar 5 _).ar 6 _).ar 7 _) rfl (by decide) 8 (.bool false)
 have hR2:=((((hR.far (p:=⟨M.b,4,none⟩) fA (.int .i64 kind)).far (p:=⟨M.b,5,none⟩) fA (.int .i64 a)).far (p:=⟨M.b,6,none⟩) fA (.int .u64 0)).far (p:=⟨M.b,7,none⟩) fA (.int .u64 0)).far (p:=⟨M.b,8,none⟩) fA (.bool false)
 generalize(((((w1.setCell ⟨M.b,4,none⟩ (.int .i64 kind)).setCell ⟨M.b,5,none⟩ (.int .i64 a)).setCell ⟨M.b,6,none⟩ (.int .u64 0)).setCell ⟨M.b,7,none⟩ (.int .u64 0)).setCell ⟨M.b,8,none⟩ (.bool false))=w2 at *
 have hb2':SB w2 C 1 M.b 75 #[.int .i64 M.L.th,.int .i64 M.L.nd,.slice (some ⟨M.wb,0,none⟩) M.sz M.sz,.int .i64 (wrap64 (n+1)),.int .i64 kind,.int .i64 a,.int .u64 0,.int .u64 0,.bool false]:=hb2
 clear hb2 hc hf hl hb1' hr1 hR hfr hm1
 have hc:=hb2'.blk.cells
 have hf:=hb2'.blk.frees
 have hl:=hb2'.lt
 have hcR:=hR2.cells
 have FN:=hR2.frees
 have FO:=hR2.lt
 have cy:w.heap.size≤R:=by have:=HR.out;omega
 have cz:M.b≠R:=fun e=>fA (Eq.symm e)
 have cA:M.wb≠R:=fun e=>Bc (Eq.symm e)
 go_wp2_with fail
 refine bodyPost_ret (v:= .agg #[.int .i64 kind,.int .i64 a,.int .u64 0,.int .u64 0,.bool false]) ?_ rfl ?_
 ·simp[results,Tryz.results67,go_sem,hcR]
 ·exact⟨rfl,⟨HH.out.ok,⟨_,_,_,_,_,_,(((((hb2'.far (p:=⟨R,0,none⟩) cz _).far (p:=⟨R,1,none⟩) cz _).far (p:=⟨R,2,none⟩) cz _).far (p:=⟨R,3,none⟩) cz _).far (p:=⟨R,4,none⟩) cz _)⟩,(((((hr2.far (p:=⟨R,0,none⟩) cA _).far (p:=⟨R,1,none⟩) cA _).far (p:=⟨R,2,none⟩) cA _).far (p:=⟨R,3,none⟩) cA _).far (p:=⟨R,4,none⟩) cA _),HH.out.rng⟩,(((((hfr2.cH (p:=⟨R,0,none⟩) cy _).cH (p:=⟨R,1,none⟩) cy _).cH (p:=⟨R,2,none⟩) cy _).cH (p:=⟨R,3,none⟩) cy _).cH (p:=⟨R,4,none⟩) cy _)⟩
variable {C':Nat→Nat}
theorem aj.col (h:aj w C M m) (h1:C' M.b=C M.b) (h2:C' M.wb=C M.wb):aj w C' M m:=by
 obtain⟨n,kk,a,o,x,q,hb⟩:=h.blk
 exact⟨h.ok,⟨n,kk,a,o,x,q,SB.mk hb.blk (h1.trans hb.col)⟩,SB.mk h.row.blk (h2.trans h.row.col),h.rng⟩
theorem aj.Dp (h:aj w C M m):M.b<w.heap.size∧M.wb<w.heap.size:=by
 obtain⟨n,kk,a,o,x,q,hb⟩:=h.blk
 exact⟨hb.lt,h.row.lt⟩
structure uB (C:Nat→Nat) (M:ML) (m:Nat→Int) (w w':World):Prop where
 mem:aj w' C M m
 fr:Fr C K1 LM w w'
theorem Ff (m:Nat→Int) (i:Nat) (h:i<M.sz) (hs:(M.sz:Int)=M.L.size):ld M m (i:Int)=m i:=by unfold ld;rw[if_pos (by omega)];rfl
theorem Bd (m:Nat→Int) (a:Int) (h:a<0∨(M.sz:Int)≤a) (hs:(M.sz:Int)=M.L.size):ld M m a=0:=by unfold ld;rw[if_neg (by omega)]
theorem Be (m:Nat→Int) (i:Nat) (x:Int) (h:i<M.sz) (hs:(M.sz:Int)=M.L.size):st M m (i:Int) x=upd m i x:=by unfold st;rw[if_pos (by omega)];rfl
theorem Bf (m:Nat→Int) (a x:Int) (h:a<0∨(M.sz:Int)≤a) (hs:(M.sz:Int)=M.L.size):st M m a x=m:=by unfold st;rw[if_neg (by omega)]
theorem FP (v0 v1 v2 v3 v4:Value) (W:World):(Instr.field 73 (.agg #[v0,v1,v2,v3,v4]) 2).run Tryz.prog W= .ok v2 W:=by kernel_rfl
theorem KF (v0 v1 v2 v3 v4:Value) (W:World):(Instr.field 73 (.agg #[v0,v1,v2,v3,v4]) 4).run Tryz.prog W= .ok v4 W:=by kernel_rfl
theorem Bg (old:Int) (w:World):Calls Tryz.prog 68 #[.int .u64 old] w fun e w'=>e= .returned (.tuple #[.int .u64 old,.bool true])∧w=w':=by
 go_enter Tryz.func68,Tryz.ntmps68
 go_wp2_with fail
 go_ret2
 exact⟨rfl,rfl⟩
theorem zc (old x:Int) (b:Nat) (w:World) (h:bo w b 34 #[.int .u64 x]):Calls Tryz.prog 168 #[.int .u64 old,.pointer (some ⟨b,0,none⟩)] w fun e w'=>e= .returned (.tuple #[.int .u64 x,.bool true])∧w=w':=by
 have hc:=h.cells
 go_enter Tryz.func168,Tryz.ntmps168
 go_wp2_with fail
 go_ret2
 exact⟨rfl,rfl⟩
theorem DJ (old n:Int) (b:Nat) (w:World) (h:bo w b 34 #[.int .u64 n]):Calls Tryz.prog 169 #[.int .u64 old,.pointer (some ⟨b,0,none⟩)] w fun e w'=>e= .returned (.tuple #[.int .u64 ((old+n) % 18446744073709551616),.bool true])∧w=w':=by
 have hc:=h.cells
 have hw:IntKind.u64.wrap (old+n)=(old+n) % 18446744073709551616:=by simp[IntKind.wrap,IntKind.bits,IntKind.signed]
 have HW:=Lib.hid hw
 clear hw
 go_enter Tryz.func169,Tryz.ntmps169
 go_wp2_with fail
 rw[HW.out]
 go_ret2
 exact⟨rfl,rfl⟩
theorem DK (was x old:Int) (ok:Bool) (hok:decide (was=old)=ok) (b1 b2:Nat) (w:World) (h1:bo w b1 34 #[.int .u64 x]) (h2:bo w b2 34 #[.int .u64 old]):
  Calls Tryz.prog 165 #[.int .u64 was,.pointer (some ⟨b1,0,none⟩),.pointer (some ⟨b2,0,none⟩)] w fun e w'=>e= .returned (.tuple #[.int .u64 x,.bool ok])∧∃ n,w'=w.drewN n:=by
 have hc1:=h1.cells
 have hc2:=h2.cells
 have hq:(was==old)=ok:=hok
 have HO:=Lib.hid hok
 clear hok
 go_enter Tryz.func165,Tryz.ntmps165
 go_wp2_with fail
 go_quiet (fail)
 go_wp2_with fail
 go_ret2
 exact⟨rfl,_,rfl⟩
theorem aS (h:aj w C M m) (a:Int):Calls Tryz.prog 61 #[.pointer (some ⟨M.b,0,none⟩),.int .i64 a] w fun e w'=>e= .returned (.int .u64 (ld M m a))∧uB C M m w w':=by
 obtain⟨hs,hs1,hs2⟩:=h.sz
 by_cases h0:a<0∨(M.sz:Int)≤a
 ·have HV:=Lib.hid (Bd m a h0 hs)
  have hact:Calls Tryz.prog 67 #[.pointer (some ⟨M.b,0,none⟩),.int .i64 1,.int .i64 a,.func (.func 68) #[] #[]] w (uy C M m (.agg #[.int .i64 1,.int .i64 a,.int .u64 0,.int .u64 0,.bool false]) w):=by
   rcases h0 with h0 | h0
   ·exact oA h a h0 1 _
   ·exact lX h a h0 1 _
  have HA:=Lib.hid hact
  clear hact hs h0
  go_enter Tryz.func61,Tryz.ntmps61
  go_wp2_with fail
  refine HA.out.mono ?_
  rintro e w1 ⟨rfl,hm,hf⟩
  have hfl:=FP
  go_wp2_with fail
  go_ret
  exact⟨by rw[HV.out];rfl,hm,hf⟩
 ·obtain⟨i,rfl⟩:=Int.eq_ofNat_of_zero_le (by omega:0≤a)
  have hi:i<M.sz:=by omega
  have HV:=Lib.hid (Ff m i hi hs)
  have hact:=uz h i hi 1 (m i) true (h.rng i) (fun W _=>Bg (m i) W)
  rw[if_pos rfl,FL] at hact
  have HA:=Lib.hid hact
  clear hact hs h0
  go_enter Tryz.func61,Tryz.ntmps61
  go_wp2_with fail
  refine HA.out.mono ?_
  rintro e w1 ⟨rfl,hm,hf⟩
  have hfl:=FP
  go_wp2_with fail
  go_ret
  exact⟨by rw[HV.out];rfl,hm,hf⟩
theorem eE {w w1:World} {C:Nat→Nat} {M:ML} {m m':Nat→Int} {v:Value} {args:Array Value} (h:aj w C M m) (hb:Below w.heap.size w w1)
  (ha:Calls Tryz.prog 67 args w1 (uy (br C w.heap.size 0) M m' v w1)):Calls Tryz.prog 67 args w1 fun e w'=>e= .returned v∧uB C M m' w w':=
 ha.mono fun _ _ ⟨h1,h2,h3⟩=>⟨h1,h2.col (dE C 0 h.Dp.1).symm (dE C 0 h.Dp.2).symm,(Fr.of_below hb C K1 LM).trans h3 (aF.br C _ 0)⟩
theorem fB (h:aj w C M m) (a x:Int) (hx:0≤x∧x<18446744073709551616):Calls Tryz.prog 122 #[.pointer (some ⟨M.b,0,none⟩),.int .i64 a,.int .u64 x] w fun e w'=>e= .returned (.tuple #[])∧uB C M (st M m a x) w w':=by
 obtain⟨hs,hs1,hs2⟩:=h.sz
 have hb:Below w.heap.size w (w.alloc (.cells #[.int .u64 x] 34)):=(Below.refl _ _).alloc (Nat.le_refl _) _
 have hbox:SB (w.alloc (.cells #[.int .u64 x] 34)) (br C w.heap.size 0) 0 w.heap.size 34 #[.int .u64 x]:=SB.new w _ (aT C 0 (Nat.le_refl _)) _ _ rfl
 have hm1:aj (w.alloc (.cells #[.int .u64 x] 34)) (br C w.heap.size 0) M m:=(h.step hb).col (dE C 0 h.Dp.1) (dE C 0 h.Dp.2)
 have hact:Calls Tryz.prog 67 #[.pointer (some ⟨M.b,0,none⟩),.int .i64 2,.int .i64 a,.func (.func 168) #[] #[.pointer (some ⟨w.heap.size,0,none⟩)]] (w.alloc (.cells #[.int .u64 x] 34)) fun e w'=>(∃ v,e= .returned v)∧uB C M (st M m a x) w w':=by
  by_cases h0:a<0∨(M.sz:Int)≤a
  ·rw[Bf m a x h0 hs]
   rcases h0 with h0 | h0
   ·exact(eE h hb (oA hm1 a h0 2 _)).mono fun e w' ⟨he,hm⟩=>⟨⟨_,he⟩,hm⟩
   ·exact(eE h hb (lX hm1 a h0 2 _)).mono fun e w' ⟨he,hm⟩=>⟨⟨_,he⟩,hm⟩
  ·obtain⟨i,rfl⟩:=Int.eq_ofNat_of_zero_le (by omega:0≤a)
   have hi:i<M.sz:=by omega
   rw[Be m i x hi hs]
   have:=eE h hb (sT hm1 i hi 2 (.pointer (some ⟨w.heap.size,0,none⟩)) x true hx (fun W hW=>zc (m i) x w.heap.size W (hbox.fr hW (.inl (show ¬ (0=1) by decide))).blk))
   rw[if_pos rfl] at this
   exact this.mono fun e w' ⟨he,hm⟩=>⟨⟨_,he⟩,hm⟩
 have HA:=Lib.hid hact
 clear hact hs hb hbox hm1
 go_enter Tryz.func122,Tryz.ntmps122
 go_wp2_with fail
 refine HA.out.mono ?_
 rintro e w1 ⟨⟨v,rfl⟩,hm⟩
 go_wp2_with fail
 go_end0
 exact⟨rfl,hm⟩
theorem sU (h:aj w C M m) (a n:Int):Calls Tryz.prog 123 #[.pointer (some ⟨M.b,0,none⟩),.int .i64 a,.int .u64 n] w fun e w'=>e= .returned (.int .u64 (ld M m a))∧uB C M (add M m a n) w w':=by
 obtain⟨hs,hs1,hs2⟩:=h.sz
 have hb:Below w.heap.size w (w.alloc (.cells #[.int .u64 n] 34)):=(Below.refl _ _).alloc (Nat.le_refl _) _
 have hbox:SB (w.alloc (.cells #[.int .u64 n] 34)) (br C w.heap.size 0) 0 w.heap.size 34 #[.int .u64 n]:=SB.new w _ (aT C 0 (Nat.le_refl _)) _ _ rfl
 have hm1:aj (w.alloc (.cells #[.int .u64 n] 34)) (br C w.heap.size 0) M m:=(h.step hb).col (dE C 0 h.Dp.1) (dE C 0 h.Dp.2)
 have hact:Calls Tryz.prog 67 #[.pointer (some ⟨M.b,0,none⟩),.int .i64 4,.int .i64 a,.func (.func 169) #[] #[.pointer (some ⟨w.heap.size,0,none⟩)]] (w.alloc (.cells #[.int .u64 n] 34)) fun e w'=>(∃ k a' x q,e= .returned (.agg #[k,a',.int .u64 (ld M m a),x,q]))∧uB C M (add M m a n) w w':=by
  unfold add
  by_cases h0:a<0∨(M.sz:Int)≤a
  ·rw[Bf m a _ h0 hs,Bd m a h0 hs]
   rcases h0 with h0 | h0
   ·exact(eE h hb (oA hm1 a h0 4 _)).mono fun e w' ⟨he,hm⟩=>⟨⟨_,_,_,_,he⟩,hm⟩
   ·exact(eE h hb (lX hm1 a h0 4 _)).mono fun e w' ⟨he,hm⟩=>⟨⟨_,_,_,_,he⟩,hm⟩
  ·obtain⟨i,rfl⟩:=Int.eq_ofNat_of_zero_le (by omega:0≤a)
   have hi:i<M.sz:=by omega
   rw[Be m i _ hi hs,Ff m i hi hs]
   have:=eE h hb (wS hm1 i hi 4 (.pointer (some ⟨w.heap.size,0,none⟩)) ((m i+n) % 18446744073709551616) true (by omega) (fun W hW=>DJ (m i) n w.heap.size W (hbox.fr hW (.inl (show ¬ (0=1) by decide))).blk))
   rw[if_pos rfl] at this
   exact this.mono fun e w' ⟨he,hm⟩=>⟨⟨_,_,_,_,he⟩,hm⟩
 have HA:=Lib.hid hact
 clear hact hs hb hbox hm1
 go_enter Tryz.func123,Tryz.ntmps123
 go_wp2_with fail
 refine HA.out.mono ?_
 rintro e w1 ⟨⟨k,a',x,q,rfl⟩,hm⟩
 have hfl:=FP k a' (.int .u64 (ld M m a)) x q
 go_wp2_with fail
 go_ret
 exact⟨rfl,hm⟩
theorem fM (h:aj w C M m) (a old x:Int) (hx:0≤x∧x<18446744073709551616):Calls Tryz.prog 118 #[.pointer (some ⟨M.b,0,none⟩),.int .i64 a,.int .u64 old,.int .u64 x] w fun e w'=>e= .returned (.bool (bA M m a old))∧uB C M (cas M m a old x) w w':=by
 obtain⟨hs,hs1,hs2⟩:=h.sz
 have hb:Below w.heap.size w ((w.alloc (.cells #[.int .u64 old] 34)).alloc (.cells #[.int .u64 x] 34)):=((Below.refl _ _).alloc (Nat.le_refl _) _).alloc (by simp) _
 have L9:SB ((w.alloc (.cells #[.int .u64 old] 34)).alloc (.cells #[.int .u64 x] 34)) (br C w.heap.size 0) 0 w.heap.size 34 #[.int .u64 old]:=(SB.new w _ (aT C 0 (Nat.le_refl _)) _ _ rfl).alloc _
 have hbx:SB ((w.alloc (.cells #[.int .u64 old] 34)).alloc (.cells #[.int .u64 x] 34)) (br C w.heap.size 0) 0 (w.heap.size+1) 34 #[.int .u64 x]:=SB.new _ _ (aT C 0 (by omega)) _ _ (by simp)
 have hm1:aj ((w.alloc (.cells #[.int .u64 old] 34)).alloc (.cells #[.int .u64 x] 34)) (br C w.heap.size 0) M m:=(h.step hb).col (dE C 0 h.Dp.1) (dE C 0 h.Dp.2)
 have hact:Calls Tryz.prog 67 #[.pointer (some ⟨M.b,0,none⟩),.int .i64 3,.int .i64 a,.func (.func 165) #[] #[.pointer (some ⟨w.heap.size+1,0,none⟩),.pointer (some ⟨w.heap.size,0,none⟩)]] ((w.alloc (.cells #[.int .u64 old] 34)).alloc (.cells #[.int .u64 x] 34)) fun e w'=>(∃ k a' y z,e= .returned (.agg #[k,a',y,z,.bool (bA M m a old)]))∧uB C M (cas M m a old x) w w':=by
  unfold cas bA
  by_cases h0:a<0∨(M.sz:Int)≤a
  ·rw[decide_eq_false (show ¬ (0≤a∧a<M.L.size) by omega)]
   simp only[Bool.false_and,Bool.false_eq_true,if_false]
   rcases h0 with h0 | h0
   ·exact(eE h hb (oA hm1 a h0 3 _)).mono fun e w' ⟨he,hm⟩=>⟨⟨_,_,_,_,he⟩,hm⟩
   ·exact(eE h hb (lX hm1 a h0 3 _)).mono fun e w' ⟨he,hm⟩=>⟨⟨_,_,_,_,he⟩,hm⟩
  ·obtain⟨i,rfl⟩:=Int.eq_ofNat_of_zero_le (by omega:0≤a)
   have hi:i<M.sz:=by omega
   rw[decide_eq_true (show 0≤(i:Int)∧(i:Int)<M.L.size by omega),Be m i x hi hs,Bool.true_and,Int.toNat_natCast]
   exact(eE h hb (wR hm1 i hi 3 (.pointer (some ⟨w.heap.size+1,0,none⟩)) (.pointer (some ⟨w.heap.size,0,none⟩)) x (decide (m i=old)) hx (fun W hW=>DK (m i) x old _ rfl (w.heap.size+1) w.heap.size W (hbx.fr hW (.inl (show ¬ (0=1) by decide))).blk (L9.fr hW (.inl (show ¬ (0=1) by decide))).blk))).mono fun e w' ⟨he,hm⟩=>⟨⟨_,_,_,_,he⟩,hm⟩
 have HA:=Lib.hid hact
 clear hact hs hb L9 hbx hm1
 go_enter Tryz.func118,Tryz.ntmps118
 go_wp2_with fail
 refine HA.out.mono ?_
 rintro e w1 ⟨⟨k,a',y,z,rfl⟩,hm⟩
 have hfl:=KF k a' y z (.bool (bA M m a old))
 go_wp2_with fail
 go_ret
 exact⟨rfl,hm⟩
end Go.Proofs.YtbcnnhlpilmmbaaGreat
