/- Texts that are wanted for PTopFull.
   Conditions: none. -/
import Derived.Test.YtbcnnhlpilmmbaaGreatJPTopFull01
set_option maxRecDepth 100000
set_option maxHeartbeats 6400000
namespace Go.Proofs.YtbcnnhlpilmmbaaGreat
open Go Go.RowKit
variable {w:World} {C:Nat→Nat} {M:ML} {m:Nat→Int}
theorem tL (h:aj w C M m) (i:Nat) (hi:i<M.sz) (kind:Int) (x:Int) (ok:Bool) (hx:0≤x∧x<18446744073709551616)
  (tM:∀ W,Fr C K1 LM w W→Calls Tryz.prog 68 #[.int .u64 (m i)] W fun e w'=>e= .returned (.tuple #[.int .u64 x,.bool ok])∧W=w'):
  Calls Tryz.prog 67 #[.pointer (some ⟨M.b,0,none⟩),.int .i64 kind,.int .i64 i,.func (.func 68) #[] #[]] w (tK C M (if ok then upd m i x else m) (.agg #[.int .i64 kind,.int .i64 i,.int .u64 (m i),.int .u64 x,.bool ok]) w):=by
 obtain⟨hs,hs1,hs2⟩:=h.sz
 obtain⟨n,k,aa,o,xx,q,hb⟩:=h.blk
 have hc:=hb.blk.cells
 have hf:=hb.blk.frees
 have hl:=hb.lt
 have HV:=Lib.hid (show ld M m (i:Int)=m i by unfold ld;rw[if_pos (by omega)];rfl)
 have d0:decide ((i:Int)<0)=false:=decide_eq_false (by omega)
 have d1:decide (M.sz≤i)=false:=decide_eq_false (by omega)
 have JS:=df m hi
 have HH:=Lib.hid h
 have hrow:=h.row
 have hne:=h.ne
 have hne':=fun e=>hne (Eq.symm e)
 clear hs h
 go_enter Tryz.func67,Tryz.ntmps67
 go_wp2_with fail
 have hb1:=(hb.ao 3 (.int .i64 (wrap64 (n+1)))).alloc (.cells #[.int .i64 0,.int .i64 0,.int .u64 0,.int .u64 0,.bool false] 73)
 have hr1:=(hrow.far (p:=⟨M.b,3,none⟩) hne' (.int .i64 (wrap64 (n+1)))).alloc (.cells #[.int .i64 0,.int .i64 0,.int .u64 0,.int .u64 0,.bool false] 73)
 have hR:=a8.newAt (w.setCell ⟨M.b,3,none⟩ (.int .i64 (wrap64 (n+1)))) 73 #[.int .i64 0,.int .i64 0,.int .u64 0,.int .u64 0,.bool false] (g:=w.heap.size) (by simp)
 have hfr:=((Fr.refl C K1 LM w).ao hb rfl (by decide) 3 (.int .i64 (wrap64 (n+1)))).alloc (.cells #[.int .i64 0,.int .i64 0,.int .u64 0,.int .u64 0,.bool false] 73)
 generalize((w.setCell ⟨M.b,3,none⟩ (.int .i64 (wrap64 (n+1)))).alloc (.cells #[.int .i64 0,.int .i64 0,.int .u64 0,.int .u64 0,.bool false] 73))=w1 at *
 have hb1':SB w1 C 1 M.b 75 #[.int .i64 M.L.th,.int .i64 M.L.nd,.slice (some ⟨M.wb,0,none⟩) M.sz M.sz,.int .i64 (wrap64 (n+1)),.int .i64 k,.int .i64 aa,.int .u64 o,.int .u64 xx,.bool q]:=hb1
 clear hb1 hc hf hl
 have hm1:aj w1 C M m:=⟨HH.out.ok,⟨_,_,_,_,_,_,hb1'⟩,hr1,HH.out.rng⟩
 have eZ:w.heap.size≠M.b:=fun e=>by have:=hb.lt;omega
 obtain⟨R,iQ⟩:∃ R,w.heap.size=R:=⟨_,rfl⟩
 rw[iQ] at hR eZ
 have Ac:R≠M.wb:=fun e=>by have:=hrow.lt;omega
 have HR:=Lib.hid iQ
 rw[iQ]
 clear iQ
 refine(gk hm1 (i:Int)).mono ?_
 rintro e w2 ⟨rfl,rfl⟩
 have hc:=hb1'.blk.cells
 have hf:=hb1'.blk.frees
 have hl:=hb1'.lt
 rw[HV.out]
 go_wp2_with fail
 have hb2:=((((hb1'.ao 4 (.int .i64 kind)).ao 5 (.int .i64 i)).ao 6 (.int .u64 (m i))).ao 7 (.int .u64 (m i))).ao 8 (.bool false)
 have hr2:=((((hr1.far (p:=⟨M.b,4,none⟩) hne' (.int .i64 kind)).far (p:=⟨M.b,5,none⟩) hne' (.int .i64 i)).far (p:=⟨M.b,6,none⟩) hne' (.int .u64 (m i))).far (p:=⟨M.b,7,none⟩) hne' (.int .u64 (m i))).far (p:=⟨M.b,8,none⟩) hne' (.bool false)
 have hR2:=((((hR.far (p:=⟨M.b,4,none⟩) eZ (.int .i64 kind)).far (p:=⟨M.b,5,none⟩) eZ (.int .i64 i)).far (p:=⟨M.b,6,none⟩) eZ (.int .u64 (m i))).far (p:=⟨M.b,7,none⟩) eZ (.int .u64 (m i))).far (p:=⟨M.b,8,none⟩) eZ (.bool false)
 have hfr2:=((((hfr.ao hb1' rfl (by decide) 4 (.int .i64 kind)).ao (hb1'.ao 4 _) rfl (by decide) 5 (.int .i64 i)).ao ((hb1'.ao 4 _).ao 5 _) rfl (by decide) 6 (.int .u64 (m i))).ao (((hb1'.ao 4 _).ao 5 _).ao 6 _) rfl (by decide) 7 (.int .u64 (m i))).ao ((((hb1'.ao 4 _).ao 5 _).ao 6 _).ao 7 _) rfl (by decide) 8 (.bool false)
 generalize(((((w1.setCell ⟨M.b,4,none⟩ (.int .i64 kind)).setCell ⟨M.b,5,none⟩ (.int .i64 i)).setCell ⟨M.b,6,none⟩ (.int .u64 (m i))).setCell ⟨M.b,7,none⟩ (.int .u64 (m i))).setCell ⟨M.b,8,none⟩ (.bool false))=w2 at *
 have hb2':SB w2 C 1 M.b 75 #[.int .i64 M.L.th,.int .i64 M.L.nd,.slice (some ⟨M.wb,0,none⟩) M.sz M.sz,.int .i64 (wrap64 (n+1)),.int .i64 kind,.int .i64 i,.int .u64 (m i),.int .u64 (m i),.bool false]:=hb2
 clear hb2 hc hf hl hb1' hr1 hR hfr hm1
 ((with_reducible refine(tM w2 hfr2).mono ?_);rintro e w3 ⟨rfl,rfl⟩)
 have hc:=hb2'.blk.cells
 have hf:=hb2'.blk.frees
 have hl:=hb2'.lt
 have hcw:w2.cell? ⟨M.wb,i,none⟩=some (.int .u64 (m i)):=(hr2.blk.cell i).trans (df m hi)
 have hfw:=hr2.blk.frozen i
 have EZ:=hr2.lt
 have hcR:=hR2.cells
 have E2:=hR2.frees
 have E3:=hR2.lt
 have hb3:=(hb2'.ao 7 (.int .u64 x)).ao 8 (.bool ok)
 have hr3:=(hr2.far (p:=⟨M.b,7,none⟩) hne' (.int .u64 x)).far (p:=⟨M.b,8,none⟩) hne' (.bool ok)
 have hfr3:=(hfr2.ao hb2' rfl (by decide) 7 (.int .u64 x)).ao (hb2'.ao 7 _) rfl (by decide) 8 (.bool ok)
 have CM:=(hR2.far (p:=⟨M.b,7,none⟩) eZ (.int .u64 x)).far (p:=⟨M.b,8,none⟩) eZ (.bool ok)
 have b8:w.heap.size≤R:=by have:=HR.out;omega
 have b9:M.b≠R:=fun e=>eZ (Eq.symm e)
 have ca:M.wb≠R:=fun e=>Ac (Eq.symm e)
 cases ok
 ·go_wp2_with fail
  refine bodyPost_ret (v:= .agg #[.int .i64 kind,.int .i64 i,.int .u64 (m i),.int .u64 x,.bool false]) ?_ rfl ?_
  ·simp[results,Tryz.results67,go_sem,hcR]
  ·exact⟨rfl,⟨HH.out.ok,⟨_,_,_,_,_,_,(((((hb3.far (p:=⟨R,0,none⟩) b9 _).far (p:=⟨R,1,none⟩) b9 _).far (p:=⟨R,2,none⟩) b9 _).far (p:=⟨R,3,none⟩) b9 _).far (p:=⟨R,4,none⟩) b9 _)⟩,(((((hr3.far (p:=⟨R,0,none⟩) ca _).far (p:=⟨R,1,none⟩) ca _).far (p:=⟨R,2,none⟩) ca _).far (p:=⟨R,3,none⟩) ca _).far (p:=⟨R,4,none⟩) ca _),HH.out.rng⟩,(((((hfr3.ct (p:=⟨R,0,none⟩) b8 _).ct (p:=⟨R,1,none⟩) b8 _).ct (p:=⟨R,2,none⟩) b8 _).ct (p:=⟨R,3,none⟩) b8 _).ct (p:=⟨R,4,none⟩) b8 _)⟩
 ·have hb4:=hb3.far (p:=⟨M.wb,i,none⟩) hne (.int .u64 x)
  have hr4:=hr3.ao i (.int .u64 x)
  rw[iP] at hr4
  have vL:=hfr3.ao hr3 rfl (by decide) i (.int .u64 x)
  go_wp2_with fail
  refine bodyPost_ret (v:= .agg #[.int .i64 kind,.int .i64 i,.int .u64 (m i),.int .u64 x,.bool true]) ?_ rfl ?_
  ·simp[results,Tryz.results67,go_sem,hcR]
  ·exact⟨rfl,⟨HH.out.ok,⟨_,_,_,_,_,_,(((((hb4.far (p:=⟨R,0,none⟩) b9 _).far (p:=⟨R,1,none⟩) b9 _).far (p:=⟨R,2,none⟩) b9 _).far (p:=⟨R,3,none⟩) b9 _).far (p:=⟨R,4,none⟩) b9 _)⟩,(((((hr4.far (p:=⟨R,0,none⟩) ca _).far (p:=⟨R,1,none⟩) ca _).far (p:=⟨R,2,none⟩) ca _).far (p:=⟨R,3,none⟩) ca _).far (p:=⟨R,4,none⟩) ca _),fun j=>by
    by_cases e:j=i
    ·subst e;rw[upd_same];exact hx
    ·rw[gb _ _ e];exact HH.out.rng j⟩,(((((vL.ct (p:=⟨R,0,none⟩) b8 _).ct (p:=⟨R,1,none⟩) b8 _).ct (p:=⟨R,2,none⟩) b8 _).ct (p:=⟨R,3,none⟩) b8 _).ct (p:=⟨R,4,none⟩) b8 _)⟩
theorem r8 (h:aj w C M m) (i:Nat) (hi:i<M.sz) (kind:Int) (c0:Value) (x:Int) (ok:Bool) (hx:0≤x∧x<18446744073709551616)
  (tM:∀ W,Fr C K1 LM w W→Calls Tryz.prog 168 #[.int .u64 (m i),c0] W fun e w'=>e= .returned (.tuple #[.int .u64 x,.bool ok])∧W=w'):
  Calls Tryz.prog 67 #[.pointer (some ⟨M.b,0,none⟩),.int .i64 kind,.int .i64 i,.func (.func 168) #[] #[c0]] w (tK C M (if ok then upd m i x else m) (.agg #[.int .i64 kind,.int .i64 i,.int .u64 (m i),.int .u64 x,.bool ok]) w):=by
 obtain⟨hs,hs1,hs2⟩:=h.sz
 obtain⟨n,k,aa,o,xx,q,hb⟩:=h.blk
 have hc:=hb.blk.cells
 have hf:=hb.blk.frees
 have hl:=hb.lt
 have HV:=Lib.hid (show ld M m (i:Int)=m i by unfold ld;rw[if_pos (by omega)];rfl)
 have d0:decide ((i:Int)<0)=false:=decide_eq_false (by omega)
 have d1:decide (M.sz≤i)=false:=decide_eq_false (by omega)
 have JS:=df m hi
 have HH:=Lib.hid h
 have hrow:=h.row
 have hne:=h.ne
 have hne':=fun e=>hne (Eq.symm e)
 clear hs h
 go_enter Tryz.func67,Tryz.ntmps67
 go_wp2_with fail
 have hb1:=(hb.ao 3 (.int .i64 (wrap64 (n+1)))).alloc (.cells #[.int .i64 0,.int .i64 0,.int .u64 0,.int .u64 0,.bool false] 73)
 have hr1:=(hrow.far (p:=⟨M.b,3,none⟩) hne' (.int .i64 (wrap64 (n+1)))).alloc (.cells #[.int .i64 0,.int .i64 0,.int .u64 0,.int .u64 0,.bool false] 73)
 have hR:=a8.newAt (w.setCell ⟨M.b,3,none⟩ (.int .i64 (wrap64 (n+1)))) 73 #[.int .i64 0,.int .i64 0,.int .u64 0,.int .u64 0,.bool false] (g:=w.heap.size) (by simp)
 have hfr:=((Fr.refl C K1 LM w).ao hb rfl (by decide) 3 (.int .i64 (wrap64 (n+1)))).alloc (.cells #[.int .i64 0,.int .i64 0,.int .u64 0,.int .u64 0,.bool false] 73)
 generalize((w.setCell ⟨M.b,3,none⟩ (.int .i64 (wrap64 (n+1)))).alloc (.cells #[.int .i64 0,.int .i64 0,.int .u64 0,.int .u64 0,.bool false] 73))=w1 at *
 have hb1':SB w1 C 1 M.b 75 #[.int .i64 M.L.th,.int .i64 M.L.nd,.slice (some ⟨M.wb,0,none⟩) M.sz M.sz,.int .i64 (wrap64 (n+1)),.int .i64 k,.int .i64 aa,.int .u64 o,.int .u64 xx,.bool q]:=hb1
 clear hb1 hc hf hl
 have hm1:aj w1 C M m:=⟨HH.out.ok,⟨_,_,_,_,_,_,hb1'⟩,hr1,HH.out.rng⟩
 have eZ:w.heap.size≠M.b:=fun e=>by have:=hb.lt;omega
 obtain⟨R,iQ⟩:∃ R,w.heap.size=R:=⟨_,rfl⟩
 rw[iQ] at hR eZ
 have Ac:R≠M.wb:=fun e=>by have:=hrow.lt;omega
 have HR:=Lib.hid iQ
 rw[iQ]
 clear iQ
 refine(gk hm1 (i:Int)).mono ?_
 rintro e w2 ⟨rfl,rfl⟩
 have hc:=hb1'.blk.cells
 have hf:=hb1'.blk.frees
 have hl:=hb1'.lt
 rw[HV.out]
 go_wp2_with fail
 have hb2:=((((hb1'.ao 4 (.int .i64 kind)).ao 5 (.int .i64 i)).ao 6 (.int .u64 (m i))).ao 7 (.int .u64 (m i))).ao 8 (.bool false)
 have hr2:=((((hr1.far (p:=⟨M.b,4,none⟩) hne' (.int .i64 kind)).far (p:=⟨M.b,5,none⟩) hne' (.int .i64 i)).far (p:=⟨M.b,6,none⟩) hne' (.int .u64 (m i))).far (p:=⟨M.b,7,none⟩) hne' (.int .u64 (m i))).far (p:=⟨M.b,8,none⟩) hne' (.bool false)
 have hR2:=((((hR.far (p:=⟨M.b,4,none⟩) eZ (.int .i64 kind)).far (p:=⟨M.b,5,none⟩) eZ (.int .i64 i)).far (p:=⟨M.b,6,none⟩) eZ (.int .u64 (m i))).far (p:=⟨M.b,7,none⟩) eZ (.int .u64 (m i))).far (p:=⟨M.b,8,none⟩) eZ (.bool false)
 have hfr2:=((((hfr.ao hb1' rfl (by decide) 4 (.int .i64 kind)).ao (hb1'.ao 4 _) rfl (by decide) 5 (.int .i64 i)).ao ((hb1'.ao 4 _).ao 5 _) rfl (by decide) 6 (.int .u64 (m i))).ao (((hb1'.ao 4 _).ao 5 _).ao 6 _) rfl (by decide) 7 (.int .u64 (m i))).ao ((((hb1'.ao 4 _).ao 5 _).ao 6 _).ao 7 _) rfl (by decide) 8 (.bool false)
 generalize(((((w1.setCell ⟨M.b,4,none⟩ (.int .i64 kind)).setCell ⟨M.b,5,none⟩ (.int .i64 i)).setCell ⟨M.b,6,none⟩ (.int .u64 (m i))).setCell ⟨M.b,7,none⟩ (.int .u64 (m i))).setCell ⟨M.b,8,none⟩ (.bool false))=w2 at *
 have hb2':SB w2 C 1 M.b 75 #[.int .i64 M.L.th,.int .i64 M.L.nd,.slice (some ⟨M.wb,0,none⟩) M.sz M.sz,.int .i64 (wrap64 (n+1)),.int .i64 kind,.int .i64 i,.int .u64 (m i),.int .u64 (m i),.bool false]:=hb2
 clear hb2 hc hf hl hb1' hr1 hR hfr hm1
 ((with_reducible refine(tM w2 hfr2).mono ?_);rintro e w3 ⟨rfl,rfl⟩)
 have hc:=hb2'.blk.cells
 have hf:=hb2'.blk.frees
 have hl:=hb2'.lt
 have hcw:w2.cell? ⟨M.wb,i,none⟩=some (.int .u64 (m i)):=(hr2.blk.cell i).trans (df m hi)
 have hfw:=hr2.blk.frozen i
 have EZ:=hr2.lt
 have hcR:=hR2.cells
 have E2:=hR2.frees
 have E3:=hR2.lt
 have hb3:=(hb2'.ao 7 (.int .u64 x)).ao 8 (.bool ok)
 have hr3:=(hr2.far (p:=⟨M.b,7,none⟩) hne' (.int .u64 x)).far (p:=⟨M.b,8,none⟩) hne' (.bool ok)
 have hfr3:=(hfr2.ao hb2' rfl (by decide) 7 (.int .u64 x)).ao (hb2'.ao 7 _) rfl (by decide) 8 (.bool ok)
 have CM:=(hR2.far (p:=⟨M.b,7,none⟩) eZ (.int .u64 x)).far (p:=⟨M.b,8,none⟩) eZ (.bool ok)
 have b8:w.heap.size≤R:=by have:=HR.out;omega
 have b9:M.b≠R:=fun e=>eZ (Eq.symm e)
 have ca:M.wb≠R:=fun e=>Ac (Eq.symm e)
 cases ok
 ·go_wp2_with fail
  refine bodyPost_ret (v:= .agg #[.int .i64 kind,.int .i64 i,.int .u64 (m i),.int .u64 x,.bool false]) ?_ rfl ?_
  ·simp[results,Tryz.results67,go_sem,hcR]
  ·exact⟨rfl,⟨HH.out.ok,⟨_,_,_,_,_,_,(((((hb3.far (p:=⟨R,0,none⟩) b9 _).far (p:=⟨R,1,none⟩) b9 _).far (p:=⟨R,2,none⟩) b9 _).far (p:=⟨R,3,none⟩) b9 _).far (p:=⟨R,4,none⟩) b9 _)⟩,(((((hr3.far (p:=⟨R,0,none⟩) ca _).far (p:=⟨R,1,none⟩) ca _).far (p:=⟨R,2,none⟩) ca _).far (p:=⟨R,3,none⟩) ca _).far (p:=⟨R,4,none⟩) ca _),HH.out.rng⟩,(((((hfr3.ct (p:=⟨R,0,none⟩) b8 _).ct (p:=⟨R,1,none⟩) b8 _).ct (p:=⟨R,2,none⟩) b8 _).ct (p:=⟨R,3,none⟩) b8 _).ct (p:=⟨R,4,none⟩) b8 _)⟩
 ·have hb4:=hb3.far (p:=⟨M.wb,i,none⟩) hne (.int .u64 x)
  have hr4:=hr3.ao i (.int .u64 x)
  rw[iP] at hr4
  have vL:=hfr3.ao hr3 rfl (by decide) i (.int .u64 x)
  go_wp2_with fail
  refine bodyPost_ret (v:= .agg #[.int .i64 kind,.int .i64 i,.int .u64 (m i),.int .u64 x,.bool true]) ?_ rfl ?_
  ·simp[results,Tryz.results67,go_sem,hcR]
  ·exact⟨rfl,⟨HH.out.ok,⟨_,_,_,_,_,_,(((((hb4.far (p:=⟨R,0,none⟩) b9 _).far (p:=⟨R,1,none⟩) b9 _).far (p:=⟨R,2,none⟩) b9 _).far (p:=⟨R,3,none⟩) b9 _).far (p:=⟨R,4,none⟩) b9 _)⟩,(((((hr4.far (p:=⟨R,0,none⟩) ca _).far (p:=⟨R,1,none⟩) ca _).far (p:=⟨R,2,none⟩) ca _).far (p:=⟨R,3,none⟩) ca _).far (p:=⟨R,4,none⟩) ca _),fun j=>by
    by_cases e:j=i
    ·subst e;rw[upd_same];exact hx
    ·rw[gb _ _ e];exact HH.out.rng j⟩,(((((vL.ct (p:=⟨R,0,none⟩) b8 _).ct (p:=⟨R,1,none⟩) b8 _).ct (p:=⟨R,2,none⟩) b8 _).ct (p:=⟨R,3,none⟩) b8 _).ct (p:=⟨R,4,none⟩) b8 _)⟩
theorem vM (h:aj w C M m) (i:Nat) (hi:i<M.sz) (kind:Int) (c0:Value) (c1:Value) (x:Int) (ok:Bool) (hx:0≤x∧x<18446744073709551616)
  (tM:∀ W,Fr C K1 LM w W→Calls Tryz.prog 165 #[.int .u64 (m i),c0,c1] W fun e w'=>e= .returned (.tuple #[.int .u64 x,.bool ok])∧(∃ n,w'=W.drewN n)):
  Calls Tryz.prog 67 #[.pointer (some ⟨M.b,0,none⟩),.int .i64 kind,.int .i64 i,.func (.func 165) #[] #[c0,c1]] w (tK C M (if ok then upd m i x else m) (.agg #[.int .i64 kind,.int .i64 i,.int .u64 (m i),.int .u64 x,.bool ok]) w):=by
 obtain⟨hs,hs1,hs2⟩:=h.sz
 obtain⟨n,k,aa,o,xx,q,hb⟩:=h.blk
 have hc:=hb.blk.cells
 have hf:=hb.blk.frees
 have hl:=hb.lt
 have HV:=Lib.hid (show ld M m (i:Int)=m i by unfold ld;rw[if_pos (by omega)];rfl)
 have d0:decide ((i:Int)<0)=false:=decide_eq_false (by omega)
 have d1:decide (M.sz≤i)=false:=decide_eq_false (by omega)
 have JS:=df m hi
 have HH:=Lib.hid h
 have hrow:=h.row
 have hne:=h.ne
 have hne':=fun e=>hne (Eq.symm e)
 clear hs h
 go_enter Tryz.func67,Tryz.ntmps67
 go_wp2_with fail
 have hb1:=(hb.ao 3 (.int .i64 (wrap64 (n+1)))).alloc (.cells #[.int .i64 0,.int .i64 0,.int .u64 0,.int .u64 0,.bool false] 73)
 have hr1:=(hrow.far (p:=⟨M.b,3,none⟩) hne' (.int .i64 (wrap64 (n+1)))).alloc (.cells #[.int .i64 0,.int .i64 0,.int .u64 0,.int .u64 0,.bool false] 73)
 have hR:=a8.newAt (w.setCell ⟨M.b,3,none⟩ (.int .i64 (wrap64 (n+1)))) 73 #[.int .i64 0,.int .i64 0,.int .u64 0,.int .u64 0,.bool false] (g:=w.heap.size) (by simp)
 have hfr:=((Fr.refl C K1 LM w).ao hb rfl (by decide) 3 (.int .i64 (wrap64 (n+1)))).alloc (.cells #[.int .i64 0,.int .i64 0,.int .u64 0,.int .u64 0,.bool false] 73)
 generalize((w.setCell ⟨M.b,3,none⟩ (.int .i64 (wrap64 (n+1)))).alloc (.cells #[.int .i64 0,.int .i64 0,.int .u64 0,.int .u64 0,.bool false] 73))=w1 at *
 have hb1':SB w1 C 1 M.b 75 #[.int .i64 M.L.th,.int .i64 M.L.nd,.slice (some ⟨M.wb,0,none⟩) M.sz M.sz,.int .i64 (wrap64 (n+1)),.int .i64 k,.int .i64 aa,.int .u64 o,.int .u64 xx,.bool q]:=hb1
 clear hb1 hc hf hl
 have hm1:aj w1 C M m:=⟨HH.out.ok,⟨_,_,_,_,_,_,hb1'⟩,hr1,HH.out.rng⟩
 have eZ:w.heap.size≠M.b:=fun e=>by have:=hb.lt;omega
 obtain⟨R,iQ⟩:∃ R,w.heap.size=R:=⟨_,rfl⟩
 rw[iQ] at hR eZ
 have Ac:R≠M.wb:=fun e=>by have:=hrow.lt;omega
 have HR:=Lib.hid iQ
 rw[iQ]
 clear iQ
 refine(gk hm1 (i:Int)).mono ?_
 rintro e w2 ⟨rfl,rfl⟩
 have hc:=hb1'.blk.cells
 have hf:=hb1'.blk.frees
 have hl:=hb1'.lt
 rw[HV.out]
 go_wp2_with fail
 have hb2:=((((hb1'.ao 4 (.int .i64 kind)).ao 5 (.int .i64 i)).ao 6 (.int .u64 (m i))).ao 7 (.int .u64 (m i))).ao 8 (.bool false)
 have hr2:=((((hr1.far (p:=⟨M.b,4,none⟩) hne' (.int .i64 kind)).far (p:=⟨M.b,5,none⟩) hne' (.int .i64 i)).far (p:=⟨M.b,6,none⟩) hne' (.int .u64 (m i))).far (p:=⟨M.b,7,none⟩) hne' (.int .u64 (m i))).far (p:=⟨M.b,8,none⟩) hne' (.bool false)
 have hR2:=((((hR.far (p:=⟨M.b,4,none⟩) eZ (.int .i64 kind)).far (p:=⟨M.b,5,none⟩) eZ (.int .i64 i)).far (p:=⟨M.b,6,none⟩) eZ (.int .u64 (m i))).far (p:=⟨M.b,7,none⟩) eZ (.int .u64 (m i))).far (p:=⟨M.b,8,none⟩) eZ (.bool false)
 have hfr2:=((((hfr.ao hb1' rfl (by decide) 4 (.int .i64 kind)).ao (hb1'.ao 4 _) rfl (by decide) 5 (.int .i64 i)).ao ((hb1'.ao 4 _).ao 5 _) rfl (by decide) 6 (.int .u64 (m i))).ao (((hb1'.ao 4 _).ao 5 _).ao 6 _) rfl (by decide) 7 (.int .u64 (m i))).ao ((((hb1'.ao 4 _).ao 5 _).ao 6 _).ao 7 _) rfl (by decide) 8 (.bool false)
 generalize(((((w1.setCell ⟨M.b,4,none⟩ (.int .i64 kind)).setCell ⟨M.b,5,none⟩ (.int .i64 i)).setCell ⟨M.b,6,none⟩ (.int .u64 (m i))).setCell ⟨M.b,7,none⟩ (.int .u64 (m i))).setCell ⟨M.b,8,none⟩ (.bool false))=w2 at *
 have hb2':SB w2 C 1 M.b 75 #[.int .i64 M.L.th,.int .i64 M.L.nd,.slice (some ⟨M.wb,0,none⟩) M.sz M.sz,.int .i64 (wrap64 (n+1)),.int .i64 kind,.int .i64 i,.int .u64 (m i),.int .u64 (m i),.bool false]:=hb2
 clear hb2 hc hf hl hb1' hr1 hR hfr hm1
 ((with_reducible refine(tM w2 hfr2).mono ?_);rintro e w3 ⟨rfl,n3,rfl⟩)
 replace hb2':=hb2'.drewN n3
 replace hr2:=hr2.drewN n3
 replace hR2:=hR2.drewN n3
 replace hfr2:=hfr2.drewN n3
 clear tM
 generalize w2.drewN n3=w2 at *
 have hc:=hb2'.blk.cells
 have hf:=hb2'.blk.frees
 have hl:=hb2'.lt
 have hcw:w2.cell? ⟨M.wb,i,none⟩=some (.int .u64 (m i)):=(hr2.blk.cell i).trans (df m hi)
 have hfw:=hr2.blk.frozen i
 have EZ:=hr2.lt
 have hcR:=hR2.cells
 have E2:=hR2.frees
 have E3:=hR2.lt
 have hb3:=(hb2'.ao 7 (.int .u64 x)).ao 8 (.bool ok)
 have hr3:=(hr2.far (p:=⟨M.b,7,none⟩) hne' (.int .u64 x)).far (p:=⟨M.b,8,none⟩) hne' (.bool ok)
 have hfr3:=(hfr2.ao hb2' rfl (by decide) 7 (.int .u64 x)).ao (hb2'.ao 7 _) rfl (by decide) 8 (.bool ok)
 have CM:=(hR2.far (p:=⟨M.b,7,none⟩) eZ (.int .u64 x)).far (p:=⟨M.b,8,none⟩) eZ (.bool ok)
 have b8:w.heap.size≤R:=by have:=HR.out;omega
 have b9:M.b≠R:=fun e=>eZ (Eq.symm e)
 have ca:M.wb≠R:=fun e=>Ac (Eq.symm e)
 cases ok
 ·go_wp2_with fail
  refine bodyPost_ret (v:= .agg #[.int .i64 kind,.int .i64 i,.int .u64 (m i),.int .u64 x,.bool false]) ?_ rfl ?_
  ·simp[results,Tryz.results67,go_sem,hcR]
  ·exact⟨rfl,⟨HH.out.ok,⟨_,_,_,_,_,_,(((((hb3.far (p:=⟨R,0,none⟩) b9 _).far (p:=⟨R,1,none⟩) b9 _).far (p:=⟨R,2,none⟩) b9 _).far (p:=⟨R,3,none⟩) b9 _).far (p:=⟨R,4,none⟩) b9 _)⟩,(((((hr3.far (p:=⟨R,0,none⟩) ca _).far (p:=⟨R,1,none⟩) ca _).far (p:=⟨R,2,none⟩) ca _).far (p:=⟨R,3,none⟩) ca _).far (p:=⟨R,4,none⟩) ca _),HH.out.rng⟩,(((((hfr3.ct (p:=⟨R,0,none⟩) b8 _).ct (p:=⟨R,1,none⟩) b8 _).ct (p:=⟨R,2,none⟩) b8 _).ct (p:=⟨R,3,none⟩) b8 _).ct (p:=⟨R,4,none⟩) b8 _)⟩
 ·have hb4:=hb3.far (p:=⟨M.wb,i,none⟩) hne (.int .u64 x)
  have hr4:=hr3.ao i (.int .u64 x)
  rw[iP] at hr4
  have vL:=hfr3.ao hr3 rfl (by decide) i (.int .u64 x)
  go_wp2_with fail
  refine bodyPost_ret (v:= .agg #[.int .i64 kind,.int .i64 i,.int .u64 (m i),.int .u64 x,.bool true]) ?_ rfl ?_
  ·simp[results,Tryz.results67,go_sem,hcR]
  ·exact⟨rfl,⟨HH.out.ok,⟨_,_,_,_,_,_,(((((hb4.far (p:=⟨R,0,none⟩) b9 _).far (p:=⟨R,1,none⟩) b9 _).far (p:=⟨R,2,none⟩) b9 _).far (p:=⟨R,3,none⟩) b9 _).far (p:=⟨R,4,none⟩) b9 _)⟩,(((((hr4.far (p:=⟨R,0,none⟩) ca _).far (p:=⟨R,1,none⟩) ca _).far (p:=⟨R,2,none⟩) ca _).far (p:=⟨R,3,none⟩) ca _).far (p:=⟨R,4,none⟩) ca _),fun j=>by
    by_cases e:j=i
    ·subst e;rw[upd_same];exact hx
    ·rw[gb _ _ e];exact HH.out.rng j⟩,(((((vL.ct (p:=⟨R,0,none⟩) b8 _).ct (p:=⟨R,1,none⟩) b8 _).ct (p:=⟨R,2,none⟩) b8 _).ct (p:=⟨R,3,none⟩) b8 _).ct (p:=⟨R,4,none⟩) b8 _)⟩
theorem vN (h:aj w C M m) (i:Nat) (hi:i<M.sz) (kind:Int) (c0:Value) (x:Int) (ok:Bool) (hx:0≤x∧x<18446744073709551616)
  (tM:∀ W,Fr C K1 LM w W→Calls Tryz.prog 169 #[.int .u64 (m i),c0] W fun e w'=>e= .returned (.tuple #[.int .u64 x,.bool ok])∧W=w'):
  Calls Tryz.prog 67 #[.pointer (some ⟨M.b,0,none⟩),.int .i64 kind,.int .i64 i,.func (.func 169) #[] #[c0]] w (tK C M (if ok then upd m i x else m) (.agg #[.int .i64 kind,.int .i64 i,.int .u64 (m i),.int .u64 x,.bool ok]) w):=by
 obtain⟨hs,hs1,hs2⟩:=h.sz
 obtain⟨n,k,aa,o,xx,q,hb⟩:=h.blk
 have hc:=hb.blk.cells
 have hf:=hb.blk.frees
 have hl:=hb.lt
 have HV:=Lib.hid (show ld M m (i:Int)=m i by unfold ld;rw[if_pos (by omega)];rfl)
 have d0:decide ((i:Int)<0)=false:=decide_eq_false (by omega)
 have d1:decide (M.sz≤i)=false:=decide_eq_false (by omega)
 have JS:=df m hi
 have HH:=Lib.hid h
 have hrow:=h.row
 have hne:=h.ne
 have hne':=fun e=>hne (Eq.symm e)
 clear hs h
 go_enter Tryz.func67,Tryz.ntmps67
 go_wp2_with fail
 have hb1:=(hb.ao 3 (.int .i64 (wrap64 (n+1)))).alloc (.cells #[.int .i64 0,.int .i64 0,.int .u64 0,.int .u64 0,.bool false] 73)
 have hr1:=(hrow.far (p:=⟨M.b,3,none⟩) hne' (.int .i64 (wrap64 (n+1)))).alloc (.cells #[.int .i64 0,.int .i64 0,.int .u64 0,.int .u64 0,.bool false] 73)
 have hR:=a8.newAt (w.setCell ⟨M.b,3,none⟩ (.int .i64 (wrap64 (n+1)))) 73 #[.int .i64 0,.int .i64 0,.int .u64 0,.int .u64 0,.bool false] (g:=w.heap.size) (by simp)
 have hfr:=((Fr.refl C K1 LM w).ao hb rfl (by decide) 3 (.int .i64 (wrap64 (n+1)))).alloc (.cells #[.int .i64 0,.int .i64 0,.int .u64 0,.int .u64 0,.bool false] 73)
 generalize((w.setCell ⟨M.b,3,none⟩ (.int .i64 (wrap64 (n+1)))).alloc (.cells #[.int .i64 0,.int .i64 0,.int .u64 0,.int .u64 0,.bool false] 73))=w1 at *
 have hb1':SB w1 C 1 M.b 75 #[.int .i64 M.L.th,.int .i64 M.L.nd,.slice (some ⟨M.wb,0,none⟩) M.sz M.sz,.int .i64 (wrap64 (n+1)),.int .i64 k,.int .i64 aa,.int .u64 o,.int .u64 xx,.bool q]:=hb1
 clear hb1 hc hf hl
 have hm1:aj w1 C M m:=⟨HH.out.ok,⟨_,_,_,_,_,_,hb1'⟩,hr1,HH.out.rng⟩
 have eZ:w.heap.size≠M.b:=fun e=>by have:=hb.lt;omega
 obtain⟨R,iQ⟩:∃ R,w.heap.size=R:=⟨_,rfl⟩
 rw[iQ] at hR eZ
 have Ac:R≠M.wb:=fun e=>by have:=hrow.lt;omega
 have HR:=Lib.hid iQ
 rw[iQ]
 clear iQ
 refine(gk hm1 (i:Int)).mono ?_
 rintro e w2 ⟨rfl,rfl⟩
 have hc:=hb1'.blk.cells
 have hf:=hb1'.blk.frees
 have hl:=hb1'.lt
 rw[HV.out]
 go_wp2_with fail
 have hb2:=((((hb1'.ao 4 (.int .i64 kind)).ao 5 (.int .i64 i)).ao 6 (.int .u64 (m i))).ao 7 (.int .u64 (m i))).ao 8 (.bool false)
 have hr2:=((((hr1.far (p:=⟨M.b,4,none⟩) hne' (.int .i64 kind)).far (p:=⟨M.b,5,none⟩) hne' (.int .i64 i)).far (p:=⟨M.b,6,none⟩) hne' (.int .u64 (m i))).far (p:=⟨M.b,7,none⟩) hne' (.int .u64 (m i))).far (p:=⟨M.b,8,none⟩) hne' (.bool false)
 have hR2:=((((hR.far (p:=⟨M.b,4,none⟩) eZ (.int .i64 kind)).far (p:=⟨M.b,5,none⟩) eZ (.int .i64 i)).far (p:=⟨M.b,6,none⟩) eZ (.int .u64 (m i))).far (p:=⟨M.b,7,none⟩) eZ (.int .u64 (m i))).far (p:=⟨M.b,8,none⟩) eZ (.bool false)
 have hfr2:=((((hfr.ao hb1' rfl (by decide) 4 (.int .i64 kind)).ao (hb1'.ao 4 _) rfl (by decide) 5 (.int .i64 i)).ao ((hb1'.ao 4 _).ao 5 _) rfl (by decide) 6 (.int .u64 (m i))).ao (((hb1'.ao 4 _).ao 5 _).ao 6 _) rfl (by decide) 7 (.int .u64 (m i))).ao ((((hb1'.ao 4 _).ao 5 _).ao 6 _).ao 7 _) rfl (by decide) 8 (.bool false)
 generalize(((((w1.setCell ⟨M.b,4,none⟩ (.int .i64 kind)).setCell ⟨M.b,5,none⟩ (.int .i64 i)).setCell ⟨M.b,6,none⟩ (.int .u64 (m i))).setCell ⟨M.b,7,none⟩ (.int .u64 (m i))).setCell ⟨M.b,8,none⟩ (.bool false))=w2 at *
 have hb2':SB w2 C 1 M.b 75 #[.int .i64 M.L.th,.int .i64 M.L.nd,.slice (some ⟨M.wb,0,none⟩) M.sz M.sz,.int .i64 (wrap64 (n+1)),.int .i64 kind,.int .i64 i,.int .u64 (m i),.int .u64 (m i),.bool false]:=hb2
 clear hb2 hc hf hl hb1' hr1 hR hfr hm1
 ((with_reducible refine(tM w2 hfr2).mono ?_);rintro e w3 ⟨rfl,rfl⟩)
 have hc:=hb2'.blk.cells
 have hf:=hb2'.blk.frees
 have hl:=hb2'.lt
 have hcw:w2.cell? ⟨M.wb,i,none⟩=some (.int .u64 (m i)):=(hr2.blk.cell i).trans (df m hi)
 have hfw:=hr2.blk.frozen i
 have EZ:=hr2.lt
 have hcR:=hR2.cells
 have E2:=hR2.frees
 have E3:=hR2.lt
 have hb3:=(hb2'.ao 7 (.int .u64 x)).ao 8 (.bool ok)
 have hr3:=(hr2.far (p:=⟨M.b,7,none⟩) hne' (.int .u64 x)).far (p:=⟨M.b,8,none⟩) hne' (.bool ok)
 have hfr3:=(hfr2.ao hb2' rfl (by decide) 7 (.int .u64 x)).ao (hb2'.ao 7 _) rfl (by decide) 8 (.bool ok)
 have CM:=(hR2.far (p:=⟨M.b,7,none⟩) eZ (.int .u64 x)).far (p:=⟨M.b,8,none⟩) eZ (.bool ok)
 have b8:w.heap.size≤R:=by have:=HR.out;omega
 have b9:M.b≠R:=fun e=>eZ (Eq.symm e)
 have ca:M.wb≠R:=fun e=>Ac (Eq.symm e)
 cases ok
 ·go_wp2_with fail
  refine bodyPost_ret (v:= .agg #[.int .i64 kind,.int .i64 i,.int .u64 (m i),.int .u64 x,.bool false]) ?_ rfl ?_
  ·simp[results,Tryz.results67,go_sem,hcR]
  ·exact⟨rfl,⟨HH.out.ok,⟨_,_,_,_,_,_,(((((hb3.far (p:=⟨R,0,none⟩) b9 _).far (p:=⟨R,1,none⟩) b9 _).far (p:=⟨R,2,none⟩) b9 _).far (p:=⟨R,3,none⟩) b9 _).far (p:=⟨R,4,none⟩) b9 _)⟩,(((((hr3.far (p:=⟨R,0,none⟩) ca _).far (p:=⟨R,1,none⟩) ca _).far (p:=⟨R,2,none⟩) ca _).far (p:=⟨R,3,none⟩) ca _).far (p:=⟨R,4,none⟩) ca _),HH.out.rng⟩,(((((hfr3.ct (p:=⟨R,0,none⟩) b8 _).ct (p:=⟨R,1,none⟩) b8 _).ct (p:=⟨R,2,none⟩) b8 _).ct (p:=⟨R,3,none⟩) b8 _).ct (p:=⟨R,4,none⟩) b8 _)⟩
 ·have hb4:=hb3.far (p:=⟨M.wb,i,none⟩) hne (.int .u64 x)
  have hr4:=hr3.ao i (.int .u64 x)
  rw[iP] at hr4
  have vL:=hfr3.ao hr3 rfl (by decide) i (.int .u64 x)
  go_wp2_with fail
  refine bodyPost_ret (v:= .agg #[.int .i64 kind,.int .i64 i,.int .u64 (m i),.int .u64 x,.bool true]) ?_ rfl ?_
  ·simp[results,Tryz.results67,go_sem,hcR]
  ·exact⟨rfl,⟨HH.out.ok,⟨_,_,_,_,_,_,(((((hb4.far (p:=⟨R,0,none⟩) b9 _).far (p:=⟨R,1,none⟩) b9 _).far (p:=⟨R,2,none⟩) b9 _).far (p:=⟨R,3,none⟩) b9 _).far (p:=⟨R,4,none⟩) b9 _)⟩,(((((hr4.far (p:=⟨R,0,none⟩) ca _).far (p:=⟨R,1,none⟩) ca _).far (p:=⟨R,2,none⟩) ca _).far (p:=⟨R,3,none⟩) ca _).far (p:=⟨R,4,none⟩) ca _),fun j=>by
    by_cases e:j=i
    ·subst e;rw[upd_same];exact hx
    ·rw[gb _ _ e];exact HH.out.rng j⟩,(((((vL.ct (p:=⟨R,0,none⟩) b8 _).ct (p:=⟨R,1,none⟩) b8 _).ct (p:=⟨R,2,none⟩) b8 _).ct (p:=⟨R,3,none⟩) b8 _).ct (p:=⟨R,4,none⟩) b8 _)⟩
theorem nQ (h:aj w C M m) (a:Int) (ha:a<0) (kind:Int) (fv:Value):
  Calls Tryz.prog 67 #[.pointer (some ⟨M.b,0,none⟩),.int .i64 kind,.int .i64 a,fv] w (tK C M m (.agg #[.int .i64 kind,.int .i64 a,.int .u64 0,.int .u64 0,.bool false]) w):=by
 obtain⟨hs,hs1,hs2⟩:=h.sz
 obtain⟨n,k,aa,o,xx,q,hb⟩:=h.blk
 have hc:=hb.blk.cells
 have hf:=hb.blk.frees
 have hl:=hb.lt
 have HV:=Lib.hid (show ld M m a=0 by unfold ld;rw[if_neg (by omega)])
 have d0:decide (a<0)=true:=decide_eq_true ha
 have HH:=Lib.hid h
 have hrow:=h.row
 have hne:=h.ne
 have hne':=fun e=>hne (Eq.symm e)
 clear hs h
 go_enter Tryz.func67,Tryz.ntmps67
 go_wp2_with fail
 have hb1:=(hb.ao 3 (.int .i64 (wrap64 (n+1)))).alloc (.cells #[.int .i64 0,.int .i64 0,.int .u64 0,.int .u64 0,.bool false] 73)
 have hr1:=(hrow.far (p:=⟨M.b,3,none⟩) hne' (.int .i64 (wrap64 (n+1)))).alloc (.cells #[.int .i64 0,.int .i64 0,.int .u64 0,.int .u64 0,.bool false] 73)
 have hR:=a8.newAt (w.setCell ⟨M.b,3,none⟩ (.int .i64 (wrap64 (n+1)))) 73 #[.int .i64 0,.int .i64 0,.int .u64 0,.int .u64 0,.bool false] (g:=w.heap.size) (by simp)
 have hfr:=((Fr.refl C K1 LM w).ao hb rfl (by decide) 3 (.int .i64 (wrap64 (n+1)))).alloc (.cells #[.int .i64 0,.int .i64 0,.int .u64 0,.int .u64 0,.bool false] 73)
 generalize((w.setCell ⟨M.b,3,none⟩ (.int .i64 (wrap64 (n+1)))).alloc (.cells #[.int .i64 0,.int .i64 0,.int .u64 0,.int .u64 0,.bool false] 73))=w1 at *
 have hb1':SB w1 C 1 M.b 75 #[.int .i64 M.L.th,.int .i64 M.L.nd,.slice (some ⟨M.wb,0,none⟩) M.sz M.sz,.int .i64 (wrap64 (n+1)),.int .i64 k,.int .i64 aa,.int .u64 o,.int .u64 xx,.bool q]:=hb1
 clear hb1 hc hf hl
 have hm1:aj w1 C M m:=⟨HH.out.ok,⟨_,_,_,_,_,_,hb1'⟩,hr1,HH.out.rng⟩
 have eZ:w.heap.size≠M.b:=fun e=>by have:=hb.lt;omega
 obtain⟨R,iQ⟩:∃ R,w.heap.size=R:=⟨_,rfl⟩
 rw[iQ] at hR eZ
 have Ac:R≠M.wb:=fun e=>by have:=hrow.lt;omega
 have HR:=Lib.hid iQ
 rw[iQ]
 clear iQ
 refine(gk hm1 a).mono ?_
 rintro e w2 ⟨rfl,rfl⟩
 have hc:=hb1'.blk.cells
 have hf:=hb1'.blk.frees
 have hl:=hb1'.lt
 rw[HV.out]
 go_upto_region 6 with (fail)
 have hb2:=((((hb1'.ao 4 (.int .i64 kind)).ao 5 (.int .i64 a)).ao 6 (.int .u64 0)).ao 7 (.int .u64 0)).ao 8 (.bool false)
 have hr2:=((((hr1.far (p:=⟨M.b,4,none⟩) hne' (.int .i64 kind)).far (p:=⟨M.b,5,none⟩) hne' (.int .i64 a)).far (p:=⟨M.b,6,none⟩) hne' (.int .u64 0)).far (p:=⟨M.b,7,none⟩) hne' (.int .u64 0)).far (p:=⟨M.b,8,none⟩) hne' (.bool false)
 have hfr2:=((((hfr.ao hb1' rfl (by decide) 4 (.int .i64 kind)).ao (hb1'.ao 4 _) rfl (by decide) 5 (.int .i64 a)).ao ((hb1'.ao 4 _).ao 5 _) rfl (by decide) 6 (.int .u64 0)).ao (((hb1'.ao 4 _).ao 5 _).ao 6 _) rfl (by decide) 7 (.int .u64 0)).ao ((((hb1'.ao 4 _).ao 5 _).ao 6 _).ao 7 _) rfl (by decide) 8 (.bool false)
 have hR2:=((((hR.far (p:=⟨M.b,4,none⟩) eZ (.int .i64 kind)).far (p:=⟨M.b,5,none⟩) eZ (.int .i64 a)).far (p:=⟨M.b,6,none⟩) eZ (.int .u64 0)).far (p:=⟨M.b,7,none⟩) eZ (.int .u64 0)).far (p:=⟨M.b,8,none⟩) eZ (.bool false)
 generalize(((((w1.setCell ⟨M.b,4,none⟩ (.int .i64 kind)).setCell ⟨M.b,5,none⟩ (.int .i64 a)).setCell ⟨M.b,6,none⟩ (.int .u64 0)).setCell ⟨M.b,7,none⟩ (.int .u64 0)).setCell ⟨M.b,8,none⟩ (.bool false))=w2 at *
 have hb2':SB w2 C 1 M.b 75 #[.int .i64 M.L.th,.int .i64 M.L.nd,.slice (some ⟨M.wb,0,none⟩) M.sz M.sz,.int .i64 (wrap64 (n+1)),.int .i64 kind,.int .i64 a,.int .u64 0,.int .u64 0,.bool false]:=hb2
 clear hb2 hc hf hl hb1' hr1 hR hfr hm1
 have hc:=hb2'.blk.cells
 have hf:=hb2'.blk.frees
 have hl:=hb2'.lt
 have hcR:=hR2.cells
 have E2:=hR2.frees
 have E3:=hR2.lt
 have b8:w.heap.size≤R:=by have:=HR.out;omega
 have b9:M.b≠R:=fun e=>eZ (Eq.symm e)
 have ca:M.wb≠R:=fun e=>Ac (Eq.symm e)
 go_wp2_with fail
 refine bodyPost_ret (v:= .agg #[.int .i64 kind,.int .i64 a,.int .u64 0,.int .u64 0,.bool false]) ?_ rfl ?_
 ·simp[results,Tryz.results67,go_sem,hcR]
 ·exact⟨rfl,⟨HH.out.ok,⟨_,_,_,_,_,_,(((((hb2'.far (p:=⟨R,0,none⟩) b9 _).far (p:=⟨R,1,none⟩) b9 _).far (p:=⟨R,2,none⟩) b9 _).far (p:=⟨R,3,none⟩) b9 _).far (p:=⟨R,4,none⟩) b9 _)⟩,(((((hr2.far (p:=⟨R,0,none⟩) ca _).far (p:=⟨R,1,none⟩) ca _).far (p:=⟨R,2,none⟩) ca _).far (p:=⟨R,3,none⟩) ca _).far (p:=⟨R,4,none⟩) ca _),HH.out.rng⟩,(((((hfr2.ct (p:=⟨R,0,none⟩) b8 _).ct (p:=⟨R,1,none⟩) b8 _).ct (p:=⟨R,2,none⟩) b8 _).ct (p:=⟨R,3,none⟩) b8 _).ct (p:=⟨R,4,none⟩) b8 _)⟩
theorem lx (h:aj w C M m) (a:Int) (ha:(M.sz:Int)≤a) (kind:Int) (fv:Value):
  Calls Tryz.prog 67 #[.pointer (some ⟨M.b,0,none⟩),.int .i64 kind,.int .i64 a,fv] w (tK C M m (.agg #[.int .i64 kind,.int .i64 a,.int .u64 0,.int .u64 0,.bool false]) w):=by
 obtain⟨hs,hs1,hs2⟩:=h.sz
 obtain⟨n,k,aa,o,xx,q,hb⟩:=h.blk
 have hc:=hb.blk.cells
 have hf:=hb.blk.frees
 have hl:=hb.lt
 have HV:=Lib.hid (show ld M m a=0 by unfold ld;rw[if_neg (by omega)])
 have d0:decide (a<0)=false:=decide_eq_false (by omega)
 have HH:=Lib.hid h
 have hrow:=h.row
 have hne:=h.ne
 have hne':=fun e=>hne (Eq.symm e)
 clear hs h
 go_enter Tryz.func67,Tryz.ntmps67
 go_wp2_with fail
 have hb1:=(hb.ao 3 (.int .i64 (wrap64 (n+1)))).alloc (.cells #[.int .i64 0,.int .i64 0,.int .u64 0,.int .u64 0,.bool false] 73)
 have hr1:=(hrow.far (p:=⟨M.b,3,none⟩) hne' (.int .i64 (wrap64 (n+1)))).alloc (.cells #[.int .i64 0,.int .i64 0,.int .u64 0,.int .u64 0,.bool false] 73)
 have hR:=a8.newAt (w.setCell ⟨M.b,3,none⟩ (.int .i64 (wrap64 (n+1)))) 73 #[.int .i64 0,.int .i64 0,.int .u64 0,.int .u64 0,.bool false] (g:=w.heap.size) (by simp)
 have hfr:=((Fr.refl C K1 LM w).ao hb rfl (by decide) 3 (.int .i64 (wrap64 (n+1)))).alloc (.cells #[.int .i64 0,.int .i64 0,.int .u64 0,.int .u64 0,.bool false] 73)
 generalize((w.setCell ⟨M.b,3,none⟩ (.int .i64 (wrap64 (n+1)))).alloc (.cells #[.int .i64 0,.int .i64 0,.int .u64 0,.int .u64 0,.bool false] 73))=w1 at *
 have hb1':SB w1 C 1 M.b 75 #[.int .i64 M.L.th,.int .i64 M.L.nd,.slice (some ⟨M.wb,0,none⟩) M.sz M.sz,.int .i64 (wrap64 (n+1)),.int .i64 k,.int .i64 aa,.int .u64 o,.int .u64 xx,.bool q]:=hb1
 clear hb1 hc hf hl
 have hm1:aj w1 C M m:=⟨HH.out.ok,⟨_,_,_,_,_,_,hb1'⟩,hr1,HH.out.rng⟩
 have eZ:w.heap.size≠M.b:=fun e=>by have:=hb.lt;omega
 obtain⟨R,iQ⟩:∃ R,w.heap.size=R:=⟨_,rfl⟩
 rw[iQ] at hR eZ
 have Ac:R≠M.wb:=fun e=>by have:=hrow.lt;omega
 have HR:=Lib.hid iQ
 rw[iQ]
 clear iQ
 refine(gk hm1 a).mono ?_
 rintro e w2 ⟨rfl,rfl⟩
 have hc:=hb1'.blk.cells
 have hf:=hb1'.blk.frees
 have hl:=hb1'.lt
 rw[HV.out]
 go_upto_region 6 with (fail)
 have hb2:=((((hb1'.ao 4 (.int .i64 kind)).ao 5 (.int .i64 a)).ao 6 (.int .u64 0)).ao 7 (.int .u64 0)).ao 8 (.bool false)
 have hr2:=((((hr1.far (p:=⟨M.b,4,none⟩) hne' (.int .i64 kind)).far (p:=⟨M.b,5,none⟩) hne' (.int .i64 a)).far (p:=⟨M.b,6,none⟩) hne' (.int .u64 0)).far (p:=⟨M.b,7,none⟩) hne' (.int .u64 0)).far (p:=⟨M.b,8,none⟩) hne' (.bool false)
 have hfr2:=((((hfr.ao hb1' rfl (by decide) 4 (.int .i64 kind)).ao (hb1'.ao 4 _) rfl (by decide) 5 (.int .i64 a)).ao ((hb1'.ao 4 _).ao 5 _) rfl (by decide) 6 (.int .u64 0)).ao (((hb1'.ao 4 _).ao 5 _).ao 6 _) rfl (by decide) 7 (.int .u64 0)).ao ((((hb1'.ao 4 _).ao 5 _).ao 6 _).ao 7 _) rfl (by decide) 8 (.bool false)
 have hR2:=((((hR.far (p:=⟨M.b,4,none⟩) eZ (.int .i64 kind)).far (p:=⟨M.b,5,none⟩) eZ (.int .i64 a)).far (p:=⟨M.b,6,none⟩) eZ (.int .u64 0)).far (p:=⟨M.b,7,none⟩) eZ (.int .u64 0)).far (p:=⟨M.b,8,none⟩) eZ (.bool false)
 generalize(((((w1.setCell ⟨M.b,4,none⟩ (.int .i64 kind)).setCell ⟨M.b,5,none⟩ (.int .i64 a)).setCell ⟨M.b,6,none⟩ (.int .u64 0)).setCell ⟨M.b,7,none⟩ (.int .u64 0)).setCell ⟨M.b,8,none⟩ (.bool false))=w2 at *
 have hb2':SB w2 C 1 M.b 75 #[.int .i64 M.L.th,.int .i64 M.L.nd,.slice (some ⟨M.wb,0,none⟩) M.sz M.sz,.int .i64 (wrap64 (n+1)),.int .i64 kind,.int .i64 a,.int .u64 0,.int .u64 0,.bool false]:=hb2
 clear hb2 hc hf hl hb1' hr1 hR hfr hm1
 have hc:=hb2'.blk.cells
 have hf:=hb2'.blk.frees
 have hl:=hb2'.lt
 have hcR:=hR2.cells
 have E2:=hR2.frees
 have E3:=hR2.lt
 have b8:w.heap.size≤R:=by have:=HR.out;omega
 have b9:M.b≠R:=fun e=>eZ (Eq.symm e)
 have ca:M.wb≠R:=fun e=>Ac (Eq.symm e)
 go_wp2_with fail
 refine bodyPost_ret (v:= .agg #[.int .i64 kind,.int .i64 a,.int .u64 0,.int .u64 0,.bool false]) ?_ rfl ?_
 ·simp[results,Tryz.results67,go_sem,hcR]
 ·exact⟨rfl,⟨HH.out.ok,⟨_,_,_,_,_,_,(((((hb2'.far (p:=⟨R,0,none⟩) b9 _).far (p:=⟨R,1,none⟩) b9 _).far (p:=⟨R,2,none⟩) b9 _).far (p:=⟨R,3,none⟩) b9 _).far (p:=⟨R,4,none⟩) b9 _)⟩,(((((hr2.far (p:=⟨R,0,none⟩) ca _).far (p:=⟨R,1,none⟩) ca _).far (p:=⟨R,2,none⟩) ca _).far (p:=⟨R,3,none⟩) ca _).far (p:=⟨R,4,none⟩) ca _),HH.out.rng⟩,(((((hfr2.ct (p:=⟨R,0,none⟩) b8 _).ct (p:=⟨R,1,none⟩) b8 _).ct (p:=⟨R,2,none⟩) b8 _).ct (p:=⟨R,3,none⟩) b8 _).ct (p:=⟨R,4,none⟩) b8 _)⟩
variable {C':Nat→Nat}
theorem aj.col (h:aj w C M m) (h1:C' M.b=C M.b) (h2:C' M.wb=C M.wb):aj w C' M m:=by
 obtain⟨n,kk,a,o,x,q,hb⟩:=h.blk
 exact⟨h.ok,⟨n,kk,a,o,x,q,SB.mk hb.blk (h1.trans hb.col)⟩,SB.mk h.row.blk (h2.trans h.row.col),h.rng⟩
theorem aj.Co (h:aj w C M m):M.b<w.heap.size∧M.wb<w.heap.size:=by
 obtain⟨n,kk,a,o,x,q,hb⟩:=h.blk
 exact⟨hb.lt,h.row.lt⟩
structure tN (C:Nat→Nat) (M:ML) (m:Nat→Int) (w w':World):Prop where
 mem:aj w' C M m
 fr:Fr C K1 LM w w'
theorem Er (m:Nat→Int) (i:Nat) (h:i<M.sz) (hs:(M.sz:Int)=M.L.size):ld M m (i:Int)=m i:=by unfold ld;rw[if_pos (by omega)];rfl
theorem Ad (m:Nat→Int) (a:Int) (h:a<0∨(M.sz:Int)≤a) (hs:(M.sz:Int)=M.L.size):ld M m a=0:=by unfold ld;rw[if_neg (by omega)]
theorem Ae (m:Nat→Int) (i:Nat) (x:Int) (h:i<M.sz) (hs:(M.sz:Int)=M.L.size):st M m (i:Int) x=upd m i x:=by unfold st;rw[if_pos (by omega)];rfl
theorem Ag (m:Nat→Int) (a x:Int) (h:a<0∨(M.sz:Int)≤a) (hs:(M.sz:Int)=M.L.size):st M m a x=m:=by unfold st;rw[if_neg (by omega)]
theorem E4 (v0 v1 v2 v3 v4:Value) (W:World):(Instr.field 73 (.agg #[v0,v1,v2,v3,v4]) 2).run Tryz.prog W= .ok v2 W:=by kernel_rfl
theorem JT (v0 v1 v2 v3 v4:Value) (W:World):(Instr.field 73 (.agg #[v0,v1,v2,v3,v4]) 4).run Tryz.prog W= .ok v4 W:=by kernel_rfl
theorem Ah (old:Int) (w:World):Calls Tryz.prog 68 #[.int .u64 old] w fun e w'=>e= .returned (.tuple #[.int .u64 old,.bool true])∧w=w':=by
 go_enter Tryz.func68,Tryz.ntmps68
 go_wp2_with fail
 go_ret2
 exact⟨rfl,rfl⟩
theorem yr (old x:Int) (b:Nat) (w:World) (h:a8 w b 34 #[.int .u64 x]):Calls Tryz.prog 168 #[.int .u64 old,.pointer (some ⟨b,0,none⟩)] w fun e w'=>e= .returned (.tuple #[.int .u64 x,.bool true])∧w=w':=by
 have hc:=h.cells
 go_enter Tryz.func168,Tryz.ntmps168
 go_wp2_with fail
 go_ret2
 exact⟨rfl,rfl⟩
theorem CN (old n:Int) (b:Nat) (w:World) (h:a8 w b 34 #[.int .u64 n]):Calls Tryz.prog 169 #[.int .u64 old,.pointer (some ⟨b,0,none⟩)] w fun e w'=>e= .returned (.tuple #[.int .u64 ((old+n) % 18446744073709551616),.bool true])∧w=w':=by
 have hc:=h.cells
 have hw:IntKind.u64.wrap (old+n)=(old+n) % 18446744073709551616:=by simp[IntKind.wrap,IntKind.bits,IntKind.signed]
 have HW:=Lib.hid hw
 clear hw
 go_enter Tryz.func169,Tryz.ntmps169
 go_wp2_with fail
 rw[HW.out]
 go_ret2
 exact⟨rfl,rfl⟩
theorem CO (was x old:Int) (ok:Bool) (hok:decide (was=old)=ok) (b1 b2:Nat) (w:World) (h1:a8 w b1 34 #[.int .u64 x]) (h2:a8 w b2 34 #[.int .u64 old]):
  Calls Tryz.prog 165 #[.int .u64 was,.pointer (some ⟨b1,0,none⟩),.pointer (some ⟨b2,0,none⟩)] w fun e w'=>e= .returned (.tuple #[.int .u64 x,.bool ok])∧∃ n,w'=w.drewN n:=by
 have hc1:=h1.cells
 have hc2:=h2.cells
 have hq:(was==old)=ok:=hok
 have HO:=Lib.hid hok
 clear hok
 go_enter Tryz.func165,Tryz.ntmps165
 go_wp2_with fail
 go_quiet (fail)
 go_wp2_with fail
 go_ret2
 exact⟨rfl,_,rfl⟩
theorem aP (h:aj w C M m) (a:Int):Calls Tryz.prog 61 #[.pointer (some ⟨M.b,0,none⟩),.int .i64 a] w fun e w'=>e= .returned (.int .u64 (ld M m a))∧tN C M m w w':=by
 obtain⟨hs,hs1,hs2⟩:=h.sz
 by_cases h0:a<0∨(M.sz:Int)≤a
 ·have HV:=Lib.hid (Ad m a h0 hs)
  have hact:Calls Tryz.prog 67 #[.pointer (some ⟨M.b,0,none⟩),.int .i64 1,.int .i64 a,.func (.func 68) #[] #[]] w (tK C M m (.agg #[.int .i64 1,.int .i64 a,.int .u64 0,.int .u64 0,.bool false]) w):=by
   rcases h0 with h0 | h0
   ·exact nQ h a h0 1 _
   ·exact lx h a h0 1 _
  have HA:=Lib.hid hact
  clear hact hs h0
  go_enter Tryz.func61,Tryz.ntmps61
  go_wp2_with fail
  refine HA.out.mono ?_
  rintro e w1 ⟨rfl,hm,hf⟩
  have hfl:=E4
  go_wp2_with fail
  go_ret
  exact⟨by rw[HV.out];rfl,hm,hf⟩
 ·obtain⟨i,rfl⟩:=Int.eq_ofNat_of_zero_le (by omega:0≤a)
  have hi:i<M.sz:=by omega
  have HV:=Lib.hid (Er m i hi hs)
  have hact:=tL h i hi 1 (m i) true (h.rng i) (fun W _=>Ah (m i) W)
  rw[if_pos rfl,EY] at hact
  have HA:=Lib.hid hact
  clear hact hs h0
  go_enter Tryz.func61,Tryz.ntmps61
  go_wp2_with fail
  refine HA.out.mono ?_
  rintro e w1 ⟨rfl,hm,hf⟩
  have hfl:=E4
  go_wp2_with fail
  go_ret
  exact⟨by rw[HV.out];rfl,hm,hf⟩
theorem dV {w w1:World} {C:Nat→Nat} {M:ML} {m m':Nat→Int} {v:Value} {args:Array Value} (h:aj w C M m) (hb:Below w.heap.size w w1)
  (ha:Calls Tryz.prog 67 args w1 (tK (a9 C w.heap.size 0) M m' v w1)):Calls Tryz.prog 67 args w1 fun e w'=>e= .returned v∧tN C M m' w w':=
 ha.mono fun _ _ ⟨h1,h2,h3⟩=>⟨h1,h2.col (cu C 0 h.Co.1).symm (cu C 0 h.Co.2).symm,(Fr.of_below hb C K1 LM).trans h3 (aB.a9 C _ 0)⟩
theorem fa (h:aj w C M m) (a x:Int) (hx:0≤x∧x<18446744073709551616):Calls Tryz.prog 122 #[.pointer (some ⟨M.b,0,none⟩),.int .i64 a,.int .u64 x] w fun e w'=>e= .returned (.tuple #[])∧tN C M (st M m a x) w w':=by
 obtain⟨hs,hs1,hs2⟩:=h.sz
 have hb:Below w.heap.size w (w.alloc (.cells #[.int .u64 x] 34)):=(Below.refl _ _).alloc (Nat.le_refl _) _
 have hbox:SB (w.alloc (.cells #[.int .u64 x] 34)) (a9 C w.heap.size 0) 0 w.heap.size 34 #[.int .u64 x]:=SB.new w _ (aO C 0 (Nat.le_refl _)) _ _ rfl
 have hm1:aj (w.alloc (.cells #[.int .u64 x] 34)) (a9 C w.heap.size 0) M m:=(h.step hb).col (cu C 0 h.Co.1) (cu C 0 h.Co.2)
 have hact:Calls Tryz.prog 67 #[.pointer (some ⟨M.b,0,none⟩),.int .i64 2,.int .i64 a,.func (.func 168) #[] #[.pointer (some ⟨w.heap.size,0,none⟩)]] (w.alloc (.cells #[.int .u64 x] 34)) fun e w'=>(∃ v,e= .returned v)∧tN C M (st M m a x) w w':=by
  by_cases h0:a<0∨(M.sz:Int)≤a
  ·rw[Ag m a x h0 hs]
   rcases h0 with h0 | h0
   ·exact(dV h hb (nQ hm1 a h0 2 _)).mono fun e w' ⟨he,hm⟩=>⟨⟨_,he⟩,hm⟩
   ·exact(dV h hb (lx hm1 a h0 2 _)).mono fun e w' ⟨he,hm⟩=>⟨⟨_,he⟩,hm⟩
  ·obtain⟨i,rfl⟩:=Int.eq_ofNat_of_zero_le (by omega:0≤a)
   have hi:i<M.sz:=by omega
   rw[Ae m i x hi hs]
   have:=dV h hb (r8 hm1 i hi 2 (.pointer (some ⟨w.heap.size,0,none⟩)) x true hx (fun W hW=>yr (m i) x w.heap.size W (hbox.fr hW (.inl (show ¬ (0=1) by decide))).blk))
   rw[if_pos rfl] at this
   exact this.mono fun e w' ⟨he,hm⟩=>⟨⟨_,he⟩,hm⟩
 have HA:=Lib.hid hact
 clear hact hs hb hbox hm1
 go_enter Tryz.func122,Tryz.ntmps122
 go_wp2_with fail
 refine HA.out.mono ?_
 rintro e w1 ⟨⟨v,rfl⟩,hm⟩
 go_wp2_with fail
 go_end0
 exact⟨rfl,hm⟩
theorem r9 (h:aj w C M m) (a n:Int):Calls Tryz.prog 123 #[.pointer (some ⟨M.b,0,none⟩),.int .i64 a,.int .u64 n] w fun e w'=>e= .returned (.int .u64 (ld M m a))∧tN C M (add M m a n) w w':=by
 obtain⟨hs,hs1,hs2⟩:=h.sz
 have hb:Below w.heap.size w (w.alloc (.cells #[.int .u64 n] 34)):=(Below.refl _ _).alloc (Nat.le_refl _) _
 have hbox:SB (w.alloc (.cells #[.int .u64 n] 34)) (a9 C w.heap.size 0) 0 w.heap.size 34 #[.int .u64 n]:=SB.new w _ (aO C 0 (Nat.le_refl _)) _ _ rfl
 have hm1:aj (w.alloc (.cells #[.int .u64 n] 34)) (a9 C w.heap.size 0) M m:=(h.step hb).col (cu C 0 h.Co.1) (cu C 0 h.Co.2)
 have hact:Calls Tryz.prog 67 #[.pointer (some ⟨M.b,0,none⟩),.int .i64 4,.int .i64 a,.func (.func 169) #[] #[.pointer (some ⟨w.heap.size,0,none⟩)]] (w.alloc (.cells #[.int .u64 n] 34)) fun e w'=>(∃ k a' x q,e= .returned (.agg #[k,a',.int .u64 (ld M m a),x,q]))∧tN C M (add M m a n) w w':=by
  unfold add
  by_cases h0:a<0∨(M.sz:Int)≤a
  ·rw[Ag m a _ h0 hs,Ad m a h0 hs]
   rcases h0 with h0 | h0
   ·exact(dV h hb (nQ hm1 a h0 4 _)).mono fun e w' ⟨he,hm⟩=>⟨⟨_,_,_,_,he⟩,hm⟩
   ·exact(dV h hb (lx hm1 a h0 4 _)).mono fun e w' ⟨he,hm⟩=>⟨⟨_,_,_,_,he⟩,hm⟩
  ·obtain⟨i,rfl⟩:=Int.eq_ofNat_of_zero_le (by omega:0≤a)
   have hi:i<M.sz:=by omega
   rw[Ae m i _ hi hs,Er m i hi hs]
   have:=dV h hb (vN hm1 i hi 4 (.pointer (some ⟨w.heap.size,0,none⟩)) ((m i+n) % 18446744073709551616) true (by omega) (fun W hW=>CN (m i) n w.heap.size W (hbox.fr hW (.inl (show ¬ (0=1) by decide))).blk))
   rw[if_pos rfl] at this
   exact this.mono fun e w' ⟨he,hm⟩=>⟨⟨_,_,_,_,he⟩,hm⟩
 have HA:=Lib.hid hact
 clear hact hs hb hbox hm1
 go_enter Tryz.func123,Tryz.ntmps123
 go_wp2_with fail
 refine HA.out.mono ?_
 rintro e w1 ⟨⟨k,a',x,q,rfl⟩,hm⟩
 have hfl:=E4 k a' (.int .u64 (ld M m a)) x q
 go_wp2_with fail
 go_ret
 exact⟨rfl,hm⟩
theorem fq (h:aj w C M m) (a old x:Int) (hx:0≤x∧x<18446744073709551616):Calls Tryz.prog 118 #[.pointer (some ⟨M.b,0,none⟩),.int .i64 a,.int .u64 old,.int .u64 x] w fun e w'=>e= .returned (.bool (bS M m a old))∧tN C M (cas M m a old x) w w':=by
 obtain⟨hs,hs1,hs2⟩:=h.sz
 have hb:Below w.heap.size w ((w.alloc (.cells #[.int .u64 old] 34)).alloc (.cells #[.int .u64 x] 34)):=((Below.refl _ _).alloc (Nat.le_refl _) _).alloc (by simp) _
 have Lr:SB ((w.alloc (.cells #[.int .u64 old] 34)).alloc (.cells #[.int .u64 x] 34)) (a9 C w.heap.size 0) 0 w.heap.size 34 #[.int .u64 old]:=(SB.new w _ (aO C 0 (Nat.le_refl _)) _ _ rfl).alloc _
 have hbx:SB ((w.alloc (.cells #[.int .u64 old] 34)).alloc (.cells #[.int .u64 x] 34)) (a9 C w.heap.size 0) 0 (w.heap.size+1) 34 #[.int .u64 x]:=SB.new _ _ (aO C 0 (by omega)) _ _ (by simp)
 have hm1:aj ((w.alloc (.cells #[.int .u64 old] 34)).alloc (.cells #[.int .u64 x] 34)) (a9 C w.heap.size 0) M m:=(h.step hb).col (cu C 0 h.Co.1) (cu C 0 h.Co.2)
 have hact:Calls Tryz.prog 67 #[.pointer (some ⟨M.b,0,none⟩),.int .i64 3,.int .i64 a,.func (.func 165) #[] #[.pointer (some ⟨w.heap.size+1,0,none⟩),.pointer (some ⟨w.heap.size,0,none⟩)]] ((w.alloc (.cells #[.int .u64 old] 34)).alloc (.cells #[.int .u64 x] 34)) fun e w'=>(∃ k a' y z,e= .returned (.agg #[k,a',y,z,.bool (bS M m a old)]))∧tN C M (cas M m a old x) w w':=by
  unfold cas bS
  by_cases h0:a<0∨(M.sz:Int)≤a
  ·rw[decide_eq_false (show ¬ (0≤a∧a<M.L.size) by omega)]
   simp only[Bool.false_and,Bool.false_eq_true,if_false]
   rcases h0 with h0 | h0
   ·exact(dV h hb (nQ hm1 a h0 3 _)).mono fun e w' ⟨he,hm⟩=>⟨⟨_,_,_,_,he⟩,hm⟩
   ·exact(dV h hb (lx hm1 a h0 3 _)).mono fun e w' ⟨he,hm⟩=>⟨⟨_,_,_,_,he⟩,hm⟩
  ·obtain⟨i,rfl⟩:=Int.eq_ofNat_of_zero_le (by omega:0≤a)
   have hi:i<M.sz:=by omega
   rw[decide_eq_true (show 0≤(i:Int)∧(i:Int)<M.L.size by omega),Ae m i x hi hs,Bool.true_and,Int.toNat_natCast]
   exact(dV h hb (vM hm1 i hi 3 (.pointer (some ⟨w.heap.size+1,0,none⟩)) (.pointer (some ⟨w.heap.size,0,none⟩)) x (decide (m i=old)) hx (fun W hW=>CO (m i) x old _ rfl (w.heap.size+1) w.heap.size W (hbx.fr hW (.inl (show ¬ (0=1) by decide))).blk (Lr.fr hW (.inl (show ¬ (0=1) by decide))).blk))).mono fun e w' ⟨he,hm⟩=>⟨⟨_,_,_,_,he⟩,hm⟩
 have HA:=Lib.hid hact
 clear hact hs hb Lr hbx hm1
 go_enter Tryz.func118,Tryz.ntmps118
 go_wp2_with fail
 refine HA.out.mono ?_
 rintro e w1 ⟨⟨k,a',y,z,rfl⟩,hm⟩
 have hfl:=JT k a' y z (.bool (bS M m a old))
 go_wp2_with fail
 go_ret
 exact⟨rfl,hm⟩
end Go.Proofs.YtbcnnhlpilmmbaaGreat
