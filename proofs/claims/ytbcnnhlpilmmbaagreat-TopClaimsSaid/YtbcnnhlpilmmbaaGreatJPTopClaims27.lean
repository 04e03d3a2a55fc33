/- Texts that are wanted for PTopClaims.
   Conditions: none. -/
import Derived.Test.YtbcnnhlpilmmbaaGreatJPTopClaims26
set_option maxRecDepth 100000
set_option maxHeartbeats 6400000
namespace Go.Proofs.YtbcnnhlpilmmbaaGreat
open Go Go.RowKit
theorem iM.low {B B':Nat} {C:Nat→Nat} {w w':World} (h:iM B C w w') (hC:∀ g,g<B'→C g=0) (Ko:B'≤B) (hB:B'≤w.heap.size):Below B' w w':=
 ⟨h.os,h.tape,h.output,h.size,fun g hg=>by
  have e:=Array.getElem?_eq_getElem (show g<w.heap.size by omega)
  rw[e]
  exact h.keep g _ e (hC g hg) (.inr (by omega))⟩
variable {w:World}
theorem sF {base:Nat} {e:TypeId} {size n:Nat} {v:Value} {xs:List Value} (h:w.ownsRow base e size v n xs) (hn:0<n):∃ g c,v= .slice (some ⟨g,0,none⟩) n c∧base≤g∧g<w.heap.size:=by
 rcases h.2 with ⟨_,h0⟩ | ⟨g,cap,cur,hv,hb,hh,_⟩
 ·omega
 ·exact⟨g,cap,hv,hb,lt_size hh⟩
theorem CS:(Tryz.prog.info? 109).map (·.size)=some 9:=by kernel_rfl
theorem Ah:(Tryz.prog.info? 49).map (fun i=>(i.zero,i.size,i.bytes))=some (some (.agg #[.int .i64 0,.bool false,.int .i64 0]),3,24):=by kernel_rfl
def G0 (M:ML) (k:Nat):bu:=if k=0 then tY else if k=1 then rJ M else tZ M
theorem Jz (M:ML):G0 M 0=tY:=if_pos rfl
theorem JA (M:ML):G0 M 1=rJ M:=by unfold G0;rw[if_neg (by decide),if_pos rfl]
theorem JB (M:ML):G0 M 2=tZ M:=by unfold G0;rw[if_neg (by decide),if_neg (by decide)]
variable {C:Nat→Nat}
theorem JC {b mb mJ Dx eB:Nat} {Dy Dz:Nat→Nat} (h:dQ w C b ⟨nv mb mJ,Dx,Dy,Dz,eB⟩ tY):Calls Tryz.prog 39 #[.pointer (some ⟨b,0,none⟩),.int .i64 0] w (z0 C b ⟨nv mb mJ,Dx,Dy,Dz,eB⟩ (.tuple #[]) (rJ (nv mb mJ)) w):=
 sD h (fI.init oH (by decide) (by decide)) 0 10 (GY mb mJ) (by rw[show (bu.turns (gJ.M ⟨nv mb mJ,Dx,Dy,Dz,eB⟩) tY 0 10)=rJ (nv mb mJ) from rfl,(vW mb mJ).1,(vW mb mJ).2];decide)
theorem JD {b mb mJ Dx eB:Nat} {Dy Dz:Nat→Nat} (h:dQ w C b ⟨nv mb mJ,Dx,Dy,Dz,eB⟩ (rJ (nv mb mJ))):Calls Tryz.prog 39 #[.pointer (some ⟨b,0,none⟩),.int .i64 1] w (z0 C b ⟨nv mb mJ,Dx,Dy,Dz,eB⟩ (.tuple #[]) (tZ (nv mb mJ)) w):=
 sD h (mH (fI.init oH (by decide) (by decide)) 0 10) 1 14 (GZ mb mJ) (by rw[show (bu.turns (gJ.M ⟨nv mb mJ,Dx,Dy,Dz,eB⟩) (rJ (nv mb mJ)) 1 14)=tZ (nv mb mJ) from rfl,(vX mb mJ).1,(vX mb mJ).2];decide)
structure uc (w0:World) (b:Nat) (E:gJ) (e:bu) (wr:World):Prop where
 bel:Below w0.heap.size w0 wr
 ex:∃ C,dQ wr C b E e∧∀ g,g<w0.heap.size→C g=0
variable {w0 w':World} {b:Nat}
theorem uc.step {E:gJ} {e:bu} (h:uc w0 b E e w) (hb:Below w.heap.size w w'):uc w0 b E e w':=by
 obtain⟨C,h1,h2⟩:=h.ex
 exact⟨h.bel.trans (hb.mono h.bel.size),C,h1.step hb,h2⟩
theorem uc.pick {E:gJ} {e':bu} {C:Nat→Nat} {v:Value} {r:Ending} (hb:Below w0.heap.size w0 w) (h2:∀ g,g<w0.heap.size→C g=0) (hB:w0.heap.size≤E.B) (hp:z0 C b E v e' w r w'):uc w0 b E e' w':=by
 obtain⟨C',ag,hE⟩:=hp.own
 exact⟨hb.trans (hp.fr.low h2 hB hb.size),C',hE,fun g hg=>(ag g (by have:=hb.size;omega)).trans (h2 g hg)⟩
structure LO (w:World) (e:Ending) (w':World):Prop where
 ex:∃ b g c,e= .returned (.tuple #[.pointer (some ⟨b,0,none⟩),.slice (some ⟨g,0,none⟩) 2 c,.int .i64 0])∧w'.ownsRow w.heap.size 49 3 (.slice (some ⟨g,0,none⟩) 2 c) 2 [.int .i64 0,.bool true,.int .i64 0,.int .i64 0,.bool true,.int .i64 5]
 bel:Below w.heap.size w w'
theorem CT (w:World) (tb:Nat) (ht:bo w tb 67 gv):Calls Tryz.prog 21 #[.agg mI,.slice (some ⟨tb,0,none⟩) 2 2] w (LO w):=by
 have HB:=fun W (h:bo W tb 67 gv)=>yd W tb h
 have HT:=Lib.hid ht
 obtain⟨iR,MX,zR,sR,bR⟩:=info_parts Ah
 have hb1:Below w.heap.size w (w.alloc (.cells mI 65)):=(Below.refl _ _).alloc (Nat.le_refl _) _
 have hcb:=bo.new w 65 mI
 have hc:=hcb.cells
 go_enter Tryz.func21,Tryz.ntmps21
 go_wp2_with fail
 generalize(w.alloc (.cells mI 65))=w1 at *
 refine(HB w1 (HT.out.below hb1 HT.out.lt)).mono ?_
 rintro r w2 ⟨⟨b,E,C,rfl,hL,hEB,hlow,hE⟩,hb2⟩
 obtain⟨⟨mb,mJ,L⟩,Dx,Dy,Dz,eB⟩:=E
 simp only at hL hEB
 subst hL
 have hI0:uc w b ⟨nv mb mJ,Dx,Dy,Dz,eB⟩ (G0 (nv mb mJ) 0) w2:=by
  rw[Jz]
  exact⟨hb1.trans (hb2.mono hb1.size),C,hE,fun g hg=>hlow g (by have:=hb1.size;omega)⟩
 have JE:w.heap.size≤eB:=by have:=hb1.size;omega
 have hok0:fI (nv mb mJ) tY:=fI.init oH (by decide) (by decide)
 clear hE hlow hb2 hb1 hcb hc hEB
 go_wp2_with fail
 go_loopw [25] (fun i wr=>∃ k:Nat,k≤2∧i= .int .i64 k∧uc w b ⟨nv mb mJ,Dx,Dy,Dz,eB⟩ (G0 (nv mb mJ) k) wr) (fun i _=>2 - (intOf i).toNat)
 case atStart=>exact⟨0,by omega,rfl,hI0⟩
 case round=>
  clear hI0
  obtain⟨k,hk,rfl,hI⟩:=hrel
  have htb:=HT.out.below hI.bel HT.out.lt
  have htc:=htb.cells
  by_cases hlt2:k<2
  ·rcases Nat.lt_or_ge k 1 with h01 | h01
   ·obtain rfl:k=0:=by omega
    have dk:decide (((0:Nat):Int)<2)=true:=decide_eq_true (by omega)
    rw[Jz] at hI
    have hix:=(show Sl wr wr.heap.size 3 (some ⟨tb,0,none⟩) 2 gv.toList from ⟨rfl,fun _=>rfl,fun _=>htb.lt,fun j hj=>by rw[show bZ (some (⟨tb,0,none⟩:Addr))=tb from rfl,show cP (some (⟨tb,0,none⟩:Addr))=0 from rfl,Nat.zero_add,htb.cell];simp⟩).idx (P:=Tryz.prog) (c:=2) Tryz.underlying102 ua (k:=0) (by omega)
    have htx:=bo.new wr 67 #[.int .i64 0,.int .i64 4,.int .i64 5]
    have hal:Below wr.heap.size wr (wr.alloc (.cells #[.int .i64 0,.int .i64 4,.int .i64 5] 67)):=(Below.refl _ _).alloc (Nat.le_refl _) _
    have G1:=hI.step hal
    have qy:=htx.cells
    clear hal hI
    go_wp2_with fail
    obtain⟨C4,Fw,hl4⟩:=G1.ex
    refine(JC Fw).mono ?_
    intro r w5 hp
    have HJ:=uc.pick G1.bel hl4 JE hp
    obtain rfl:=hp.ret
    clear hp Fw hl4 G1 htx qy htb htc
    go_wp2_with fail
    go_roundw
    case rel=>exact⟨1,by omega,by go_num,by rw[JA];exact HJ⟩
    case measure=>simp[intOf]
   ·obtain rfl:k=1:=by omega
    have dk:decide (((1:Nat):Int)<2)=true:=decide_eq_true (by omega)
    rw[JA] at hI
    have hix:=(show Sl wr wr.heap.size 3 (some ⟨tb,0,none⟩) 2 gv.toList from ⟨rfl,fun _=>rfl,fun _=>htb.lt,fun j hj=>by rw[show bZ (some (⟨tb,0,none⟩:Addr))=tb from rfl,show cP (some (⟨tb,0,none⟩:Addr))=0 from rfl,Nat.zero_add,htb.cell];simp⟩).idx (P:=Tryz.prog) (c:=2) Tryz.underlying102 ua (k:=1) (by omega)
    have htx:=bo.new wr 67 #[.int .i64 1,.int .i64 5,.int .i64 0]
    have hal:Below wr.heap.size wr (wr.alloc (.cells #[.int .i64 1,.int .i64 5,.int .i64 0] 67)):=(Below.refl _ _).alloc (Nat.le_refl _) _
    have G1:=hI.step hal
    have qy:=htx.cells
    clear hal hI
    go_wp2_with fail
    obtain⟨C4,Fw,hl4⟩:=G1.ex
    refine(JD Fw).mono ?_
    intro r w5 hp
    have HJ:=uc.pick G1.bel hl4 JE hp
    obtain rfl:=hp.ret
    clear hp Fw hl4 G1 htx qy htb htc
    go_wp2_with fail
    go_roundw
    case rel=>exact⟨2,by omega,by go_num,by rw[JB];exact HJ⟩
    case measure=>simp[intOf]
  ·have dk:decide ((k:Int)<2)=false:=decide_eq_false (by omega)
   obtain rfl:k=2:=by omega
   rw[JB] at hI
   clear htb htc
   go_wp2_with fail
   obtain⟨C4,Fw,hl4⟩:=hI.ex
   refine(vP Fw (by rw[show (tZ (nv mb mJ)).hist.evs.length=4 by kernel_rfl];omega)).mono ?_
   rintro r w5 ⟨hb,rfl,hh,hb5⟩
   have HJ:=hI.step hb5
   have hsz5:=hb5.size
   clear Fw hI hb5
   go_wp2_with fail
   refine(qe hb _ wr.heap.size w5 hh (by rw[show (tZ (nv mb mJ)).hist.evs.length=4 by kernel_rfl];omega)).mono ?_
   rintro r w6 ⟨v,rfl,ho,hb6⟩
   rw[show (tZ (nv mb mJ)).hist.calls=[⟨0,1,0,0,4,5,0,true,0⟩,⟨2,3,1,1,5,0,0,true,5⟩] from CP mb mJ] at ho
   obtain⟨g,c,rfl,hg1,hg2⟩:=sF ho (by decide)
   have LP:=HJ.step hb6
   have hsl:Sl w6 w6.heap.size 9 (some ⟨g,0,none⟩) 2 (([⟨0,1,0,0,4,5,0,true,0⟩,⟨2,3,1,1,5,0,0,true,5⟩]:List HC).flatMap HC.cells):=Sl.de ho
   clear hh HJ hb6 ho hg1 hg2 hsz5
   go_wp2_with fail
   obtain⟨BB,Ko⟩:∃ BB,w6.heap.size=BB:=⟨_,rfl⟩
   have JF:Below BB w6 w6:=Below.refl _ _
   rw[Ko] at hsl
   have JG:w6.ownsRow BB 49 3 (.slice none 0 0) 0 []:=⟨rfl,.inl ⟨rfl,rfl⟩⟩
   have Kq:=Lib.hid Ko
   have HI:=Lib.hid LP
   have CU:=LP.bel
   clear Ko LP
   go_loopw [11,38] (fun v i wr=>∃ k:Nat,k≤2∧i= .int .i64 k∧Below BB w6 wr∧wr.ownsRow BB 49 3 v k (([.int .i64 0,.bool true,.int .i64 0,.int .i64 0,.bool true,.int .i64 5]:List Value).take (3*k))) (fun _ i _=>2 - (intOf i).toNat)
   case atStart=>exact⟨0,by omega,rfl,JF,JG⟩
   case round=>
    clear JG JF
    obtain⟨k,hk,rfl,hbb,own⟩:=hrel
    by_cases hlt2:k<2
    ·rcases Nat.lt_or_ge k 1 with h01 | h01
     ·obtain rfl:k=0:=by omega
      have dk:decide (((0:Nat):Int)<2)=true:=decide_eq_true (by omega)
      simp only [List.take] at own
      obtain⟨A7,c7,rfl,-,hnil,-⟩:=bT own
      have hix:=(hsl.below hbb).idx (P:=Tryz.prog) (c:=c) Tryz.underlying97 CS (k:=0) (by omega)
      have hsc:=(hsl.below hbb)
      have f0:=hsc.cell 0 (by omega)
      have f1:=hsc.cell 1 (by omega)
      have f2:=hsc.cell 2 (by omega)
      have f3:=hsc.cell 3 (by omega)
      have f4:=hsc.cell 4 (by omega)
      have f5:=hsc.cell 5 (by omega)
      have f6:=hsc.cell 6 (by omega)
      have f7:=hsc.cell 7 (by omega)
      have f8:=hsc.cell 8 (by omega)
      simp only[HC.cells,List.flatMap_cons,List.flatMap_nil,List.cons_append,List.nil_append,List.append_nil,List.getElem?_cons_succ,List.getElem?_cons_zero] at f0 f1 f2 f3 f4 f5 f6 f7 f8
      simp only[show bZ (some (⟨g,0,none⟩:Addr))=g from rfl,show cP (some (⟨g,0,none⟩:Addr))=0 from rfl,Nat.zero_add] at f0 f1 f2 f3 f4 f5 f6 f7 f8
      have htx:=bo.new wr 109 #[.int .i64 0,.int .i64 1,.int .i64 0,.int .i64 0,.int .i64 4,.int .i64 5,.int .i64 0,.bool true,.int .i64 0]
      have hal:Below wr.heap.size wr (wr.alloc (.cells #[.int .i64 0,.int .i64 1,.int .i64 0,.int .i64 0,.int .i64 4,.int .i64 5,.int .i64 0,.bool true,.int .i64 0] 109)):=(Below.refl _ _).alloc (Nat.le_refl _) _
      have hBw:BB≤wr.heap.size:=by have:=hbb.size;have:=Kq.out;omega
      have G2:=hbb.trans (hal.mono hBw)
      have jX:=dy own hal
      have qy:=htx.cells
      clear hal own hsc
      go_wp2_with fail
      refine(jE _ _ _ false rfl).mono ?_
      rintro r w7 ⟨rfl,hb7⟩
      have hBw2:BB≤(wr.alloc (.cells #[.int .i64 0,.int .i64 1,.int .i64 0,.int .i64 0,.int .i64 4,.int .i64 5,.int .i64 0,.bool true,.int .i64 0] 109)).heap.size:=by simp;omega
      have G3:=G2.trans (hb7.mono hBw2)
      replace jX:=dy jX hb7
      replace htx:=htx.step hb7
      clear qy
      have qy:=htx.cells
      have hxl:=htx.lt
      have hBw3:BB≤w7.heap.size:=Nat.le_trans hBw2 hb7.size
      clear f0 f1 f2 f3 f4 f5 f6 f7 f8 hb7
      have nr:=jX.alloc (.cells #[.int .i64 0,.bool true,.int .i64 0] 49)
      go_wp2_with (at_builtin;refine wpList_append_lies _ rfl _ _ _ rfl BB 49 iR _ 3 24 Tryz.underlying61 MX zR sR bR rfl (by omega) (.slice A7 0 c7) 0 [] rfl nr ⟨w7.heap.size,0,none⟩ 1 1 [.int .i64 0,.bool true,.int .i64 0] rfl rfl (World.news_of_block (heap_alloc_new w7 _)) (fun u hu=>by simp at hu;rcases hu with rfl | rfl | rfl<;>rfl) (by omega) (by decide) (by omega) (by simp;omega) (w7.heap.size+1) (by simp) ?_;intro g7 LQ w8 hown2 hgrow hat LR)
      have G4:Below BB w6 w8:=(G3.alloc hBw3 (.cells #[.int .i64 0,.bool true,.int .i64 0] 49)).grown hgrow (by simp;omega) (fun x hx=>(bM nr x hx).1)
      clear htx qy jX nr hgrow hat
      go_wp2_with fail
      go_roundw
      case rel=>exact⟨1,by omega,by go_num,G4,by simpa using hown2⟩
      case measure=>simp[intOf]
     ·obtain rfl:k=1:=by omega
      have dk:decide (((1:Nat):Int)<2)=true:=decide_eq_true (by omega)
      simp only [List.take] at own
      obtain⟨A7,c7,rfl,-,-,-⟩:=bT own
      have hix:=(hsl.below hbb).idx (P:=Tryz.prog) (c:=c) Tryz.underlying97 CS (k:=1) (by omega)
      have hsc:=(hsl.below hbb)
      have f0:=hsc.cell 9 (by omega)
      have f1:=hsc.cell 10 (by omega)
      have f2:=hsc.cell 11 (by omega)
      have f3:=hsc.cell 12 (by omega)
      have f4:=hsc.cell 13 (by omega)
      have f5:=hsc.cell 14 (by omega)
      have f6:=hsc.cell 15 (by omega)
      have f7:=hsc.cell 16 (by omega)
      have f8:=hsc.cell 17 (by omega)
      simp only[HC.cells,List.flatMap_cons,List.flatMap_nil,List.cons_append,List.nil_append,List.append_nil,List.getElem?_cons_succ,List.getElem?_cons_zero] at f0 f1 f2 f3 f4 f5 f6 f7 f8
      simp only[show bZ (some (⟨g,0,none⟩:Addr))=g from rfl,show cP (some (⟨g,0,none⟩:Addr))=0 from rfl,Nat.zero_add] at f0 f1 f2 f3 f4 f5 f6 f7 f8
      have htx:=bo.new wr 109 #[.int .i64 2,.int .i64 3,.int .i64 1,.int .i64 1,.int .i64 5,.int .i64 0,.int .i64 0,.bool true,.int .i64 5]
      have hal:Below wr.heap.size wr (wr.alloc (.cells #[.int .i64 2,.int .i64 3,.int .i64 1,.int .i64 1,.int .i64 5,.int .i64 0,.int .i64 0,.bool true,.int .i64 5] 109)):=(Below.refl _ _).alloc (Nat.le_refl _) _
      have hBw:BB≤wr.heap.size:=by have:=hbb.size;have:=Kq.out;omega
      have G2:=hbb.trans (hal.mono hBw)
      have jX:=dy own hal
      have qy:=htx.cells
      clear hal own hsc
      go_wp2_with fail
      refine(jE _ _ _ false rfl).mono ?_
      rintro r w7 ⟨rfl,hb7⟩
      have hBw2:BB≤(wr.alloc (.cells #[.int .i64 2,.int .i64 3,.int .i64 1,.int .i64 1,.int .i64 5,.int .i64 0,.int .i64 0,.bool true,.int .i64 5] 109)).heap.size:=by simp;omega
      have G3:=G2.trans (hb7.mono hBw2)
      replace jX:=dy jX hb7
      replace htx:=htx.step hb7
      clear qy
      have qy:=htx.cells
      have hxl:=htx.lt
      have hBw3:BB≤w7.heap.size:=Nat.le_trans hBw2 hb7.size
      clear f0 f1 f2 f3 f4 f5 f6 f7 f8 hb7
      have nr:=jX.alloc (.cells #[.int .i64 0,.bool true,.int .i64 5] 49)
      go_wp2_with (at_builtin;refine wpList_append_lies _ rfl _ _ _ rfl BB 49 iR _ 3 24 Tryz.underlying61 MX zR sR bR rfl (by omega) (.slice A7 1 c7) 1 [.int .i64 0,.bool true,.int .i64 0] rfl nr ⟨w7.heap.size,0,none⟩ 1 1 [.int .i64 0,.bool true,.int .i64 5] rfl rfl (World.news_of_block (heap_alloc_new w7 _)) (fun u hu=>by simp at hu;rcases hu with rfl | rfl | rfl<;>rfl) (by omega) (by decide) (by omega) (by simp;omega) (w7.heap.size+1) (by simp) ?_;intro g7 LQ w8 hown2 hgrow hat LR)
      have G4:Below BB w6 w8:=(G3.alloc hBw3 (.cells #[.int .i64 0,.bool true,.int .i64 5] 49)).grown hgrow (by simp;omega) (fun x hx=>(bM nr x hx).1)
      clear htx qy jX nr hgrow hat
      go_wp2_with fail
      go_roundw
      case rel=>exact⟨2,by omega,by go_num,G4,by simpa using hown2⟩
      case measure=>simp[intOf]
    ·have dk:decide ((k:Int)<2)=false:=decide_eq_false (by omega)
     obtain rfl:k=2:=by omega
     obtain⟨g7,c7,rfl,Oz,-⟩:=sF own (by decide)
     go_wp2_with fail
     go_ret3
     exact⟨⟨b,g7,c7,rfl,eL own (by have:=CU.size;have:=Kq.out;omega)⟩,CU.trans (hbb.mono (by have:=CU.size;have:=Kq.out;omega))⟩
theorem G5:(Tryz.prog.info? 49).map (·.size)=some 3:=by kernel_rfl
theorem ye (w:World):Calls Tryz.prog 6 #[] w fun e w'=>e= .returned (.bool false)∧Below w.heap.size w w':=by
 have hal:Below w.heap.size w (w.alloc (.cells gv 67)):=(Below.refl _ _).alloc (Nat.le_refl _) _
 have htb:=bo.new w 67 gv
 go_enter Tryz.func6,Tryz.ntmps6
 go_wp2_with fail
 refine(CT _ _ htb).mono ?_
 rintro r w2 ⟨⟨b,g,c,rfl,own⟩,hb2⟩
 have hsl:=Sl.de own
 have hix:=hsl.idx (P:=Tryz.prog) (c:=c) Tryz.underlying61 G5 (k:=1) (by omega)
 have f0:=hsl.cell 3 (by omega)
 have f1:=hsl.cell 4 (by omega)
 have f2:=hsl.cell 5 (by omega)
 simp only[List.getElem?_cons_succ,List.getElem?_cons_zero] at f0 f1 f2
 simp only[show bZ (some (⟨g,0,none⟩:Addr))=g from rfl,show cP (some (⟨g,0,none⟩:Addr))=0 from rfl,Nat.zero_add] at f0 f1 f2
 have hb:=hal.trans (hb2.mono hal.size)
 clear hsl own htb hal hb2
 go_wp2_with fail
 go_ret
 exact⟨rfl,hb⟩
theorem nQ {a b:Bool} (h:a=b):Ending.returned (.bool a)= .returned (.bool b):=by rw[h]
theorem EZ (sh:Int) (o:Opn) (w:World):Calls Tryz.prog 55 #[.int .i64 sh,.agg #[.int .i64 o.kind,.int .i64 o.key]] w fun e w'=>e= .returned (.bool (may sh o))∧Below w.heap.size w w':=by
 obtain⟨kind,key⟩:=o
 have hb:Below w.heap.size w (w.alloc (.cells #[.int .i64 kind,.int .i64 key] 46)):=(Below.refl _ _).alloc (Nat.le_refl _) _
 have HB:=Lib.hid hb
 clear hb
 have H:Hid (may sh ⟨kind,key⟩=decide (kM sh kind key)):=rfl
 by_cases h0:key<0
 ·have hm:=Lib.hid (show may sh ⟨kind,key⟩=false by rw[H.out,decide_eq_false];unfold kM;omega)
  go_enter Tryz.func55,Tryz.ntmps55
  go_wp2
  go_ret
  exact⟨nQ hm.out.symm,HB.out⟩
 ·by_cases h9:999<key
  ·have hm:=Lib.hid (show may sh ⟨kind,key⟩=false by rw[H.out,decide_eq_false];unfold kM;omega)
   go_enter Tryz.func55,Tryz.ntmps55
   go_wp2
   go_ret
   exact⟨nQ hm.out.symm,HB.out⟩
  ·have d0:decide (key<0)=false:=by simpa using h0
   have d9:decide (999<key)=false:=by simpa using h9
   by_cases h12:sh=1∨sh=2
   ·have hm:=Lib.hid (show may sh ⟨kind,key⟩=(decide (1≤kind) && decide (kind≤3)) by rw[H.out,Bool.eq_iff_iff,Bool.and_eq_true,decide_eq_true_eq,decide_eq_true_eq,decide_eq_true_eq];unfold kM;omega)
    clear h0 h9
    rcases h12 with rfl | rfl
    all_goals
     by_cases h1:1≤kind
     ·go_enter Tryz.func55,Tryz.ntmps55
      go_wp2
      go_ret
      exact⟨nQ (by rw[hm.out];simp[h1]),HB.out⟩
     ·have d1:decide (1≤kind)=false:=by simpa using h1
      have hm2:=Lib.hid (show false=(decide (1≤kind) && decide (kind≤3)) by rw[d1];rfl)
      clear h1
      go_enter Tryz.func55,Tryz.ntmps55
      go_wp2
      go_ret
      exact⟨nQ (by rw[hm.out];exact hm2.out),HB.out⟩
   ·have e1:(sh==1)=false:=by simp;omega
    have e2:(sh==2)=false:=by simp;omega
    by_cases MY:sh=3∨sh=4
    ·have hm:=Lib.hid (show may sh ⟨kind,key⟩=((kind==4) || ((kind==5) && (key==0))) by rw[H.out,Bool.eq_iff_iff,decide_eq_true_eq,Bool.or_eq_true,Bool.and_eq_true,beq_iff_eq,beq_iff_eq,beq_iff_eq];unfold kM;omega)
     clear h0 h9 h12 e1 e2
     rcases MY with rfl | rfl
     all_goals
      by_cases h4:kind=4
      ·subst h4
       go_enter Tryz.func55,Tryz.ntmps55
       go_wp2
       go_ret
       exact⟨nQ (by rw[hm.out];rfl),HB.out⟩
      ·have e4:(kind==4)=false:=by simpa using h4
       by_cases h5:kind=5
       ·subst h5
        go_enter Tryz.func55,Tryz.ntmps55
        go_wp2
        go_ret
        exact⟨nQ (by rw[hm.out];simp),HB.out⟩
       ·have e5:(kind==5)=false:=by simpa using h5
        go_enter Tryz.func55,Tryz.ntmps55
        go_wp2
        go_ret
        exact⟨nQ (by rw[hm.out];simp[e4,e5]),HB.out⟩
    ·have e3:(sh==3)=false:=by simp;omega
     have e4:(sh==4)=false:=by simp;omega
     have hm:=Lib.hid (show may sh ⟨kind,key⟩=false by rw[H.out,decide_eq_false];unfold kM;omega)
     clear h0 h9 h12 MY
     go_enter Tryz.func55,Tryz.ntmps55
     go_wp2
     go_ret
     exact⟨nQ hm.out.symm,HB.out⟩
theorem dU.vals {B n:Nat} {A:Option Addr} {ops:List (List Opn)} (h:dU w B A n ops) {k:Nat} (hk:k<n):∃ l A' c',ops[k]? =some l∧w.cell? ⟨bZ A,cP A+k,none⟩=some (.slice A' l.length c')∧Sl w B 2 A' l.length (l.flatMap Opn.cells):=by
 obtain⟨l,hl⟩:∃ l,ops[k]? =some l:=⟨_,List.getElem?_eq_getElem (by rw[h.len];exact hk)⟩
 obtain⟨A',n',c',h1,h2,rfl⟩:=h.at_ hl
 exact⟨l,A',c',hl,h1,h2⟩
theorem vY (sh th nd tr:Int) (A:Option Addr) (n cap B:Nat) (ops:List (List Opn)) (AL:Option Addr) (m cl:Nat) (w:World) (hs:dU w B A n ops) (hB:B≤w.heap.size):
  Calls Tryz.prog 22 #[.agg #[.int .i64 sh,.int .i64 th,.int .i64 nd,.int .i64 tr,.slice A n cap],.slice AL m cl] w fun e w'=>(∃ r,e= .returned (.bool r)∧(r=false→m≤60))∧Below w.heap.size w w':=by
 obtain⟨N,hN⟩:∃ N,w.heap.size=N:=⟨_,rfl⟩
 rw[hN] at hB⊢
 have hb1:Below N w (w.alloc (.cells #[.int .i64 sh,.int .i64 th,.int .i64 nd,.int .i64 tr,.slice A n cap] 24)):=(Below.refl _ _).alloc (by omega) _
 have x1:=bo.newAt w 24 #[.int .i64 sh,.int .i64 th,.int .i64 nd,.int .i64 tr,.slice A n cap] hN.symm
 have hc1:=x1.cells
 have HW:=Lib.hid hN
 by_cases h10:10<n
 ·have d1:decide ((n:Int)>10)=true:=decide_eq_true (by omega)
  go_enter Tryz.func22,Tryz.ntmps22
  go_wp2_with fail
  go_ret
  exact⟨⟨true,rfl,fun h=>by cases h⟩,hb1⟩
 have d1:decide ((n:Int)>10)=false:=decide_eq_false (by omega)
 by_cases h60:60<m
 ·have d2:decide ((m:Int)>60)=true:=decide_eq_true (by omega)
  go_enter Tryz.func22,Tryz.ntmps22
  go_wp2_with fail
  go_ret
  exact⟨⟨true,rfl,fun h=>by cases h⟩,hb1⟩
 have d2:decide ((m:Int)>60)=false:=decide_eq_false (by omega)
 have NY:=Lib.hid h60
 clear h60
 go_enter Tryz.func22,Tryz.ntmps22
 go_wp2_with fail
 clear hN
 generalize(w.alloc (.cells #[.int .i64 sh,.int .i64 th,.int .i64 nd,.int .i64 tr,.slice A n cap] 24))=w1 at *
 go_loopw [19] (fun i wr=>∃ k:Nat,k≤n∧i= .int .i64 k∧wr=w1) (fun i _=>n - (intOf i).toNat)
 case atStart=>exact⟨0,by omega,rfl,rfl⟩
 case round=>
  obtain⟨k,hk,rfl,rfl⟩:=hrel
  by_cases hlt:k<n
  ·have dk:decide ((k:Int)<(n:Int))=true:=decide_eq_true (by omega)
   have hsw:=hs.below (hb1.mono hB)
   obtain⟨l,A',c',hl,f0,-⟩:=hsw.vals hlt
   have hidx:=hsw.idx (cap:=cap) hlt
   by_cases h50:50<l.length
   ·have d5:decide ((l.length:Int)>50)=true:=decide_eq_true (by omega)
    clear hsw hl
    go_wp2_with fail
    go_ret
    exact⟨⟨true,rfl,fun h=>by cases h⟩,hb1⟩
   ·have d5:decide ((l.length:Int)>50)=false:=decide_eq_false (by omega)
    clear hsw hl
    go_wp2_with fail
    go_roundw
    case rel=>exact⟨k+1,by omega,by go_num,by first | rfl | exact trivial⟩
    case measure=>simp[intOf]<;>omega
  ·have dk:decide ((k:Int)<(n:Int))=false:=decide_eq_false (by omega)
   go_wp2_with fail
   go_ret
   exact⟨⟨false,rfl,fun _=>by have:=NY.out;omega⟩,hb1⟩
structure yW (sh th nd tr:Int) (n:Nat) (ops:List (List Opn)):Prop where
 cfg:vQ sh tr ⟨th,nd⟩
 n:(n:Int)≤th
 Ad:∀ l∈ops,l.length≤40
 may:∀ l∈ops,l.all (may sh)=true
structure JH (sh th nd tr:Int) (n:Nat) (ops:List (List Opn)) (w:World) (e:Ending) (w':World):Prop where
 ex:∃ z:Int,e= .returned (.int .i64 z)∧(z=0→yW sh th nd tr n ops)
 bel:Below w.heap.size w w'
theorem qz {ops:List (List Opn)} {p:List Opn→Prop} (h:∀ (k:Nat) (l:List Opn),ops[k]? =some l→p l):∀ l∈ops,p l:=fun l hl=>by
 obtain⟨k,hk,e⟩:=List.getElem_of_mem hl
 exact h k l (by rw[List.getElem?_eq_getElem hk,e])
theorem vZ (sh th nd tr:Int) (A:Option Addr) (n cap B:Nat) (ops:List (List Opn)) (w:World) (hs:dU w B A n ops) (hB:B≤w.heap.size):
  Calls Tryz.prog 42 #[.int .i64 sh,.int .i64 th,.int .i64 nd,.int .i64 tr,.slice A n cap] w (JH sh th nd tr n ops w):=by
 by_cases h1:sh<1∨sh>4
 ·have d:decide (sh<1)=true∨(decide (sh<1)=false∧decide (sh>4)=true):=by rcases h1 with h | h;exact .inl (decide_eq_true h);by_cases h2:sh<1;exact .inl (decide_eq_true h2);exact .inr ⟨decide_eq_false h2,decide_eq_true h⟩
  clear h1
  rcases d with d | ⟨d,d2⟩
  all_goals
   go_enter Tryz.func42,Tryz.ntmps42
   go_wp2_with fail
   go_ret
   exact⟨⟨1,rfl,fun h=>absurd h (by decide)⟩,Below.refl _ _⟩
 have d1:decide (sh<1)=false:=decide_eq_false (by omega)
 have d2:decide (sh>4)=false:=decide_eq_false (by omega)
 have H1:=Lib.hid h1
 clear h1
 by_cases h2:th<1∨th>8∨nd<1∨nd>200∨tr<0∨tr>50
 ·by_cases c0:th<1
  ·have e0:decide (th<1)=true:=decide_eq_true c0
   clear h2 c0
   go_enter Tryz.func42,Tryz.ntmps42
   go_wp2_with fail
   go_ret
   exact⟨⟨2,rfl,fun h=>absurd h (by decide)⟩,Below.refl _ _⟩
  have e0:decide (th<1)=false:=decide_eq_false c0
  by_cases c1:th>8
  ·have e1:decide (th>8)=true:=decide_eq_true c1
   clear h2 c1
   go_enter Tryz.func42,Tryz.ntmps42
   go_wp2_with fail
   go_ret
   exact⟨⟨2,rfl,fun h=>absurd h (by decide)⟩,Below.refl _ _⟩
  have e1:decide (th>8)=false:=decide_eq_false c1
  by_cases c2:nd<1
  ·have e2:decide (nd<1)=true:=decide_eq_true c2
   clear h2 c2
   go_enter Tryz.func42,Tryz.ntmps42
   go_wp2_with fail
   go_ret
   exact⟨⟨2,rfl,fun h=>absurd h (by decide)⟩,Below.refl _ _⟩
  have e2:decide (nd<1)=false:=decide_eq_false c2
  by_cases c3:nd>200
  ·have e3:decide (nd>200)=true:=decide_eq_true c3
   clear h2 c3
   go_enter Tryz.func42,Tryz.ntmps42
   go_wp2_with fail
   go_ret
   exact⟨⟨2,rfl,fun h=>absurd h (by decide)⟩,Below.refl _ _⟩
  have e3:decide (nd>200)=false:=decide_eq_false c3
  by_cases c4:tr<0
  ·have e4:decide (tr<0)=true:=decide_eq_true c4
   clear h2 c4
   go_enter Tryz.func42,Tryz.ntmps42
   go_wp2_with fail
   go_ret
   exact⟨⟨2,rfl,fun h=>absurd h (by decide)⟩,Below.refl _ _⟩
  have e4:decide (tr<0)=false:=decide_eq_false c4
  by_cases c5:tr>50
  ·have e5:decide (tr>50)=true:=decide_eq_true c5
   clear h2 c5
   go_enter Tryz.func42,Tryz.ntmps42
   go_wp2_with fail
   go_ret
   exact⟨⟨2,rfl,fun h=>absurd h (by decide)⟩,Below.refl _ _⟩
  have e5:decide (tr>50)=false:=decide_eq_false c5
  exact absurd h2 (by omega)
 have d3:decide (th<1)=false:=decide_eq_false (by omega)
 have d4:decide (th>8)=false:=decide_eq_false (by omega)
 have d5:decide (nd<1)=false:=decide_eq_false (by omega)
 have d6:decide (nd>200)=false:=decide_eq_false (by omega)
 have d7:decide (tr<0)=false:=decide_eq_false (by omega)
 have d8:decide (tr>50)=false:=decide_eq_false (by omega)
 have H2:=Lib.hid h2
 by_cases h3:(n:Int)>th
 ·have d:decide ((n:Int)>th)=true:=decide_eq_true h3
  clear h2 h3
  go_enter Tryz.func42,Tryz.ntmps42
  go_wp2_with fail
  go_ret
  exact⟨⟨6,rfl,fun h=>absurd h (by decide)⟩,Below.refl _ _⟩
 have d9:decide ((n:Int)>th)=false:=decide_eq_false h3
 have H3:=Lib.hid h3
 have LG:n≤8:=by omega
 clear h2 h3
 go_enter Tryz.func42,Tryz.ntmps42
 go_wp2_with fail
 go_loopw [11] (fun i wr=>∃ k:Nat,k≤n∧i= .int .i64 k∧w=wr∧Hid (∀ v l,v<k→ops[v]? =some l→l.length≤40)) (fun i _=>n - (intOf i).toNat)
 case atStart=>exact⟨0,by omega,rfl,rfl,Lib.hid (fun v l h=>absurd h (by omega))⟩
 case round=>
  obtain⟨k,hk,rfl,rfl,H4⟩:=hrel
  by_cases hlt:k<n
  ·have dk:decide ((k:Int)<(n:Int))=true:=decide_eq_true (by omega)
   obtain⟨l,A',c',hl,f0,-⟩:=hs.vals hlt
   have hidx:=hs.idx (cap:=cap) hlt
   by_cases Ad:40<l.length
   ·have d:decide ((l.length:Int)>40)=true:=decide_eq_true (by omega)
    clear hl
    go_wp2_with fail
    go_ret
    exact⟨⟨6,rfl,fun h=>absurd h (by decide)⟩,Below.refl _ _⟩
   ·have d:decide ((l.length:Int)>40)=false:=decide_eq_false (by omega)
    have HL:=Lib.hid hl
    clear hl
    go_wp2_with fail
    go_roundw
    case rel=>exact⟨k+1,by omega,by go_num,by first | rfl | exact trivial,Lib.hid (fun v l2 hv h2=>by
     by_cases e:v=k
     ·subst e;rw[HL.out] at h2;injection h2 with h2;subst h2;omega
     ·exact H4.out v l2 (by omega) h2)⟩
    case measure=>simp[intOf]<;>omega
  ·have dk:decide ((k:Int)<(n:Int))=false:=decide_eq_false (by omega)
   obtain rfl:k=n:=by omega
   go_wp2_with fail
   obtain⟨N,hN⟩:∃ N,w.heap.size=N:=⟨_,rfl⟩
   have HN:=Lib.hid hN
   clear hN
   have hBN:B≤N:=by have:=HN.out;omega
   go_loopw [12] (fun i wr=>∃ k2:Nat,k2≤k∧i= .int .i64 k2∧Below N w wr∧Hid (∀ v l,v<k2→ops[v]? =some l→l.all (may sh)=true)) (fun i _=>k - (intOf i).toNat)
   case atStart=>exact⟨0,by omega,rfl,Below.refl _ _,Lib.hid (fun v l h=>absurd h (by omega))⟩
   case round=>
    obtain⟨k2,hk2,rfl,hbw2,H5⟩:=hrel
    by_cases hlt2:k2<k
    ·have dk2:decide ((k2:Int)<(k:Int))=true:=decide_eq_true (by omega)
     have hsw:=hs.below (hbw2.mono hBN)
     obtain⟨l,A',c',hl,f0,hsl⟩:=hsw.vals hlt2
     have hidx:=hsw.idx (cap:=cap) hlt2
     have Ad:=H4.out k2 l hlt2 hl
     have HL:=Lib.hid hl
     clear hl
     go_wp2_with fail
     go_loopw [13] (fun i wi=>∃ j:Nat,j≤l.length∧i= .int .i64 j∧Below N w wi∧Hid ((l.take j).all (may sh)=true)) (fun i _=>l.length - (intOf i).toNat)
     case atStart=>exact⟨0,by omega,rfl,hbw2,Lib.hid rfl⟩
     case round=>
      obtain⟨j,hj,rfl,hbw,H6⟩:=hrel
      have E2:=hs.below (hbw.mono hBN)
      obtain⟨l3,A3,c3,hl3,f3,E3⟩:=E2.vals hlt2
      rw[HL.out] at hl3
      injection hl3 with hl3
      subst hl3
      clear f0 hidx hsl hsw
      have hidx3:=E2.idx (cap:=cap) hlt2
      by_cases hjl:j<l.length
      ·have dj:decide ((j:Int)<(l.length:Int))=true:=decide_eq_true (by omega)
       obtain⟨o,ho⟩:∃ o,l[j]? =some o:=⟨_,List.getElem?_eq_getElem hjl⟩
       have NZ:=E3.idx (P:=Tryz.prog) (c:=c3) Tryz.underlying52 Fs hjl
       obtain⟨o1,o2⟩:=sr E3 hjl ho
       have HO:=Lib.hid ho
       clear E2 E3 ho
       go_wp2_with fail
       refine(EZ sh o _).mono ?_
       rintro r w5 ⟨rfl,hb5⟩
       have JI:=hbw.trans (hb5.mono (by have:=hbw.size;have:=HN.out;omega))
       clear hidx3 NZ o1 o2 f3 hb5
       by_cases hm:may sh o=true
       ·have HM:=Lib.hid hm
        simp only[hm]
        clear hm
        go_wp2_with fail
        go_roundw
        case rel=>exact⟨j+1,by omega,by go_num,JI,Lib.hid (kZ HO.out H6.out HM.out)⟩
        case measure=>simp[intOf]<;>omega
       ·simp only[Bool.not_eq_true] at hm
        simp only[hm]
        go_wp2_with fail
        go_ret
        exact⟨⟨1,rfl,fun h=>absurd h (by decide)⟩,by rw[HN.out];exact JI⟩
      ·have dj:decide ((j:Int)<(l.length:Int))=false:=decide_eq_false (by omega)
       obtain rfl:j=l.length:=by omega
       clear E2 E3
       go_wp2_with fail
       go_roundw
       case rel=>exact⟨k2+1,by omega,by go_num,hbw,Lib.hid (fun v l2 hv h2=>by
        by_cases e:v=k2
        ·subst e;rw[HL.out] at h2;injection h2 with h2;subst h2;have:=H6.out;rwa [List.take_length] at this
        ·exact H5.out v l2 (by omega) h2)⟩
       case measure=>simp[intOf]<;>omega
    ·have dk2:decide ((k2:Int)<(k:Int))=false:=decide_eq_false (by omega)
     obtain rfl:k2=k:=by omega
     go_wp2_with fail
     go_ret
     refine⟨⟨0,rfl,fun _=>⟨⟨?_,?_,⟨?_,?_⟩⟩,?_,qz (fun v l hl=>H4.out v l ?_ hl),qz (fun v l hl=>H5.out v l ?_ hl)⟩⟩,by rw[HN.out];exact hbw2⟩
     ·have:=H1.out;omega
     ·have:=H2.out;omega
     ·have:=H2.out;simp only;omega
     ·have:=H2.out;simp only;omega
     ·have:=H3.out;omega
     ·rw[←hs.len];exact(List.getElem?_eq_some_iff.1 hl).1
     ·rw[←hs.len];exact(List.getElem?_eq_some_iff.1 hl).1
theorem v7 (sh th nd tr:Int) (A:Option Addr) (n cap B:Nat) (ops:List (List Opn)) (w:World) (hs:dU w B A n ops) (hB:B≤w.heap.size):
  Calls Tryz.prog 23 #[.agg #[.int .i64 sh,.int .i64 th,.int .i64 nd,.int .i64 tr,.slice A n cap]] w (JH sh th nd tr n ops w):=by
 have hb1:Below w.heap.size w (w.alloc (.cells #[.int .i64 sh,.int .i64 th,.int .i64 nd,.int .i64 tr,.slice A n cap] 24)):=(Below.refl _ _).alloc (Nat.le_refl _) _
 have x1:=bo.new w 24 #[.int .i64 sh,.int .i64 th,.int .i64 nd,.int .i64 tr,.slice A n cap]
 have hc1:=x1.cells
 go_enter Tryz.func23,Tryz.ntmps23
 go_wp2_with fail
 refine(vZ sh th nd tr A n cap B ops _ (hs.below (hb1.mono hB)) (Nat.le_trans hB hb1.size)).mono ?_
 rintro r w2 ⟨⟨z,rfl,hz⟩,hb2⟩
 go_wp2_with fail
 go_ret
 exact⟨⟨z,rfl,hz⟩,hb1.trans (hb2.mono hb1.size)⟩
theorem yf (sh th nd tr:Int) (A:Option Addr) (n cap:Nat) (w:World):
  Calls Tryz.prog 25 #[.agg #[.int .i64 sh,.int .i64 th,.int .i64 nd,.int .i64 tr,.slice A n cap]] w fun e w'=>e= .returned (.agg #[.int .i64 sh,.int .i64 th,.int .i64 nd,.int .i64 tr])∧Below w.heap.size w w':=by
 have hb1:Below w.heap.size w (w.alloc (.cells #[.int .i64 sh,.int .i64 th,.int .i64 nd,.int .i64 tr,.slice A n cap] 24)):=(Below.refl _ _).alloc (Nat.le_refl _) _
 have x1:=bo.new w 24 #[.int .i64 sh,.int .i64 th,.int .i64 nd,.int .i64 tr,.slice A n cap]
 have hc1:=x1.cells
 go_enter Tryz.func25,Tryz.ntmps25
 go_wp2_with fail
 refine bodyPost_ret (v:= .agg #[.int .i64 sh,.int .i64 th,.int .i64 nd,.int .i64 tr]) (by simp[results,Tryz.results25,go_sem]) rfl ⟨rfl,((Below.refl _ _).alloc (Nat.le_refl _) _).alloc (by simp) _⟩
structure G6 (sh th nd tr:Int) (n:Nat) (ops:List (List Opn)) (m:Nat) (w:World) (e:Ending) (w':World):Prop where
 ex:∃ r,e= .returned (.bool r)∧(r=false→m≤60∧yW sh th nd tr n ops)
 bel:Below w.heap.size w w'
theorem Ai (sh th nd tr:Int) (A:Option Addr) (n cap B:Nat) (ops:List (List Opn)) (AL:Option Addr) (m cl:Nat) (w:World) (hs:dU w B A n ops) (hB:B≤w.heap.size):
  Calls Tryz.prog 7 #[.agg #[.int .i64 sh,.int .i64 th,.int .i64 nd,.int .i64 tr,.slice A n cap],.slice AL m cl] w (G6 sh th nd tr n ops m w):=by
 have hb1:Below w.heap.size w (w.alloc (.cells #[.int .i64 sh,.int .i64 th,.int .i64 nd,.int .i64 tr,.slice A n cap] 24)):=(Below.refl _ _).alloc (Nat.le_refl _) _
 have x1:=bo.new w 24 #[.int .i64 sh,.int .i64 th,.int .i64 nd,.int .i64 tr,.slice A n cap]
 have hc1:=x1.cells
 go_enter Tryz.func7,Tryz.ntmps7
 go_wp2_with fail
 refine(vY sh th nd tr A n cap B ops AL m cl _ (hs.below (hb1.mono hB)) (Nat.le_trans hB hb1.size)).mono ?_
 rintro r w2 ⟨⟨g,rfl,hg⟩,hb2⟩
 have x2:=x1.step hb2
 have hb:=hb1.trans (hb2.mono hb1.size)
 clear hc1
 have hc2:=x2.cells
 have HG:=Lib.hid hg
 clear hg
 cases g with
 | true=>
  go_wp2_with fail
  go_ret
  exact⟨⟨true,rfl,fun h=>by cases h⟩,hb⟩
 | false=>
  go_wp2_with fail
  refine(v7 sh th nd tr A n cap B ops _ (hs.below (hb.mono hB)) (Nat.le_trans hB hb.size)).mono ?_
  rintro r w3 ⟨⟨z,rfl,hz⟩,hb3⟩
  have HZ:=Lib.hid hz
  clear hz
  go_wp2_with fail
  go_ret
  exact⟨⟨z !=0,rfl,fun h=>⟨by have:=HG.out;simpa using this,HZ.out (by simpa using h)⟩⟩,hb.trans (hb3.mono hb.size)⟩
structure LS (L:Ly) (s0:bu) (w:World) (e:Ending) (w':World):Prop where
 ex:∃ b E C',e= .returned (.pointer (some ⟨b,0,none⟩))∧E.M.L=L∧w.heap.size≤E.B∧(∀ g,g<w.heap.size→C' g=0)∧dQ w' C' b E s0
 bel:Below w.heap.size w w'
theorem Aj (sh th nd tr:Int) (A:Option Addr) (n cap B:Nat) (ops:List (List Opn)) (w:World) (hs:dU w B A n ops) (hB:B≤w.heap.size) (hj:yW sh th nd tr n ops):
  Calls Tryz.prog 8 #[.agg #[.int .i64 sh,.int .i64 th,.int .i64 nd,.int .i64 tr,.slice A n cap]] w (LS ⟨th,nd⟩ (.init sh tr ops) w):=by
 have HN:=fun W (h:dU W B A n ops) (hBW:B≤W.heap.size)=>qt sh tr ⟨th,nd⟩ hj.cfg A n cap B ops W h hBW hj.Ad hj.n hj.may (fun _=>0) (fun _ _=>rfl)
 simp only at HN
 have hb1:Below w.heap.size w (w.alloc (.cells #[.int .i64 sh,.int .i64 th,.int .i64 nd,.int .i64 tr,.slice A n cap] 24)):=(Below.refl _ _).alloc (Nat.le_refl _) _
 have x1:=bo.new w 24 #[.int .i64 sh,.int .i64 th,.int .i64 nd,.int .i64 tr,.slice A n cap]
 have hc1:=x1.cells
 have hlt:=x1.lt
 have hs1:=hs.below (hb1.mono hB)
 have hB1:=Nat.le_trans hB hb1.size
 go_enter Tryz.func8,Tryz.ntmps8
 go_wp2_with fail
 generalize(w.alloc (.cells #[.int .i64 sh,.int .i64 th,.int .i64 nd,.int .i64 tr,.slice A n cap] 24))=w1 at *
 obtain⟨xb,hxb⟩:∃ xb,w.heap.size=xb:=⟨_,rfl⟩
 have HX:=Lib.hid hxb
 simp only[hxb] at x1 hc1 hlt⊢
 clear hxb hc1
 have q1:=Later.cells (B:=w1.heap.size) x1 hlt
 refine aD (fun w'=>∃ q:Later w1.heap.size w1,w'=q.val) 9 [([0,2,3],1),([],4)] [5,6,7,8] [9] (by kernel_rfl) (by kernel_rfl) (Later.bW (Below.refl _ _).drew) ?_
 refine ai ?_
 simp only[ay,List.map_cons,List.map_nil,List.getD_cons_zero,List.getD_cons_succ]
 repeat(go_big_quiet_step (fail))
 refine wpQuiet_nil ?_
 refine bG rfl (fun K' hK'=> ?_)
 go_simp
 ((with_reducible refine(yf sh th nd tr A n cap _).mono ?_);rintro e w2 ⟨rfl,hb2⟩)
 have hbx:Below w1.heap.size w1 w2:=(Below.refl _ _).drew.trans hb2
 refine hK' _ _ (Later.bW (hbx)) ?_
 clear hK' K'
 refine ai ?_
 simp only[ay,List.map_nil]
 repeat(go_big_quiet_step (fail))
 refine wpQuiet_nil ?_
 refine bG rfl (fun K' hK'=> ?_)
 go_simp
 ((with_reducible refine(HN _ (hs1.below (hbx.mono hB1)) (Nat.le_trans hB1 hbx.size)).mono ?_);rintro e w3 ⟨⟨b,E,C3,rfl,G7,hEB,hag,hE⟩,hb3⟩)
 have hby:=hbx.trans (hb3.mono hbx.size)
 refine hK' _ _ (Later.bW (hby)) ?_
 clear hK' K'
 refine af ?_
 try simp only[ay,List.map_cons,List.map_nil,List.getD_cons_zero,List.getD_cons_succ]
 repeat(go_big_quiet_step (fail))
 refine wpQuiet_nil ?_
 refine ae _ _ _ (by kernel_rfl) ?_
 try simp only[ay,List.map_cons,List.map_nil,List.getD_cons_zero,List.getD_cons_succ]
 clear q1
 go_wp2_with fail
 refine NoPanic.normal ?_
 go_wp2_with fail
 go_ret
 refine⟨⟨b,E,C3,rfl,G7,?_,fun g hg=>hag g ?_,hE⟩,?_⟩
 ·rw[hEB];exact Nat.le_trans hb1.size hbx.size
 ·exact Nat.lt_of_lt_of_le hg (Nat.le_trans hb1.size hbx.size)
 ·exact hb1.trans (hby.mono hb1.size)
theorem Al (x:Int) (w:World) (hx:0≤x∧x<18446744073709551616):Calls Tryz.prog 18 #[.int .u64 x] w fun e w'=>e= .returned (getD' x).vals∧Below w.heap.size w w':=by
 obtain⟨n,hn⟩:∃ n,x % 4611686018427387904=n:=⟨_,rfl⟩
 have hn0:0≤n∧n<4611686018427387904:=by omega
 go_enter Tryz.func18,Tryz.ntmps18
 go_wp2_with fail
 refine bodyPost_ret (v:=(getD' x).vals) ?_ rfl ⟨rfl,(Below.refl _ _).alloc (Nat.le_refl _) _⟩
 have h1:x % 4096=n % 4096:=by omega
 have h2:x / 4096 % 512=n / 4096 % 512:=by omega
 have h3:x / 2097152 % 262144=n / 2097152 % 262144:=by omega
 have h4:x / 549755813888 % 512=n / 549755813888 % 512:=by omega
 have h5:x / 281474976710656 % 2=n / 281474976710656 % 2:=by omega
 have h6:x / 562949953421312 % 8=n / 562949953421312 % 8:=by omega
 have h7:x / 4503599627370496 % 1024=n / 4503599627370496 % 1024:=by omega
 simp[results,Tryz.results18,go_sem,getD',Ds.vals,h1,h2,h3,h4,h5,h6,h7]
 try rfl
theorem CV (x:Int) (w:World) (hx:0≤x∧x<18446744073709551616):Calls Tryz.prog 17 #[.int .u64 x] w fun e w'=>e= .returned (ao x).val∧Below w.heap.size w w':=by
 obtain⟨n,hn⟩:∃ n,x % 8796093022208=n:=⟨_,rfl⟩
 have hn0:0≤n∧n<8796093022208:=by omega
 go_enter Tryz.func17,Tryz.ntmps17
 go_wp2_with fail
 refine bodyPost_ret (v:=(ao x).val) ?_ rfl ⟨rfl,(Below.refl _ _).alloc (Nat.le_refl _) _⟩
 have h1:x % 1024=n % 1024:=by omega
 have h2:x / 1024 % 512=n / 1024 % 512:=by omega
 have h3:x / 524288 % 2=n / 524288 % 2:=by omega
 have h4:x / 1048576 % 32=n / 1048576 % 32:=by omega
 have h5:x / 33554432 % 262144=n / 33554432:=by omega
 simp[results,Tryz.results17,go_sem,ao,Wd.val,h1,h2,h3,h4,h5]
 try rfl
structure Ob where
 b:Nat
 t:TypeId
 cs:Array Value
structure ud (w0:World) (b:Nat) (E:gJ) (e:bu) (K:List Ob) (wr:World):Prop where
 bel:Below w0.heap.size w0 wr
 ok:fI E.M e
 B:w0.heap.size≤E.B
 old:∀ x∈K,w0.heap.size≤x.b∧some x.t∉AP
 ex:∃ C,dQ wr C b E e∧(∀ g,g<w0.heap.size→C g=0)∧∀ x∈K,SB wr C 0 x.b x.t x.cs
section
variable {w0 w w':World} {b:Nat} {E:gJ} {e:bu} {K:List Ob}
theorem ud.step (h:ud w0 b E e K w) (hb:Below w.heap.size w w'):ud w0 b E e K w':=by
 obtain⟨C,h1,h2,h3⟩:=h.ex
 exact⟨h.bel.trans (hb.mono h.bel.size),h.ok,h.B,h.old,C,h1.step hb,h2,fun x hx=>(h3 x hx).step hb⟩
theorem ud.blk (h:ud w0 b E e K w) {x:Ob} (hx:x∈K):bo w x.b x.t x.cs:=by
 obtain⟨C,-,-,h3⟩:=h.ex
 exact(h3 x hx).blk
theorem ud.alloc (h:ud w0 b E e K w) (t:TypeId) (cs:Array Value) (ht:some t∉AP):ud w0 b E e (⟨w.heap.size,t,cs⟩::K) (w.alloc (.cells cs t)):=by
 obtain⟨C,h1,h2,h3⟩:=h.ex
 have hb:Below w.heap.size w (w.alloc (.cells cs t)):=(Below.refl _ _).alloc (Nat.le_refl _) _
 have ag:aF w.heap.size C (br C w.heap.size 0):=aF.br _ _ _
 refine⟨h.bel.trans (hb.mono h.bel.size),h.ok,h.B,fun x hx=> ?_,br C w.heap.size 0,(h1.oK ag).step hb,fun g hg=> ?_,fun x hx=> ?_⟩
 ·rcases List.mem_cons.1 hx with rfl | hx
  ·exact⟨h.bel.size,ht⟩
  ·exact h.old x hx
 ·rw[dE _ _ (Nat.lt_of_lt_of_le hg h.bel.size)];exact h2 g hg
 ·rcases List.mem_cons.1 hx with rfl | hx
  ·exact SB.new w _ (aT _ _ (Nat.le_refl _)) t cs rfl
  ·exact((h3 x hx).oK ag).step hb
theorem ud.drop {x:Ob} (h:ud w0 b E e (x::K) w):ud w0 b E e K w:=by
 obtain⟨C,h1,h2,h3⟩:=h.ex
 exact⟨h.bel,h.ok,h.B,fun y hy=>h.old y (List.mem_cons_of_mem _ hy),C,h1,h2,fun y hy=>h3 y (List.mem_cons_of_mem _ hy)⟩
theorem E4 (h:ud w0 b E e K w) (u:Int):Calls Tryz.prog 14 #[.pointer (some ⟨b,0,none⟩),.int .i64 u] w fun r w'=>r= .returned (.bool (e.can E.M u))∧ud w0 b E (e.pick E.M u) K w':=by
 obtain⟨C,h1,h2,h3⟩:=h.ex
 refine(nP h1 u (by have:=h.ok.len;omega) (fun hc=>h.ok.fine hc)).mono ?_
 intro r w' hp
 obtain⟨C',ag,h4⟩:=hp.own
 have hsz:=h.bel.size
 exact⟨hp.ret,h.bel.trans (hp.fr.low h2 h.B hsz),(h.ok.pick u).1,h.B,h.old,C',h4,fun g hg=>(ag g (by omega)).trans (h2 g hg),fun x hx=>(h3 x hx).fe hp.fr ag (h.old x hx).2⟩
theorem yX (h:ud w0 b E e K w) (a:Int):Calls Tryz.prog 11 #[.pointer (some ⟨b,0,none⟩),.int .i64 a] w fun r w'=>r= .returned (.int .u64 (ld E.M e.m a))∧w=w':=by
 obtain⟨C,h1,h2,h3⟩:=h.ex
 exact vO h1 a
theorem Am (h:ud w0 b E e K w):Calls Tryz.prog 9 #[.pointer (some ⟨b,0,none⟩)] w fun r w'=>r= .returned E.M.L.val∧Below w.heap.size w w':=by
 obtain⟨C,h1,h2,h3⟩:=h.ex
 exact rH h1
end
structure yg where
 th:Int
 times:Int
def yg.cells (p:yg):List Value:=[.int .i64 p.th,.int .i64 p.times]
theorem yg.fx (p:yg):p.cells.length=2:=rfl
theorem JJ:(Tryz.prog.info? 39).map (·.size)=some 2:=by kernel_rfl
theorem G8 {B n:Nat} {A:Option Addr} {ps:List yg} (h:Sl w B 2 A n (ps.flatMap yg.cells)) {k:Nat} {p:yg} (hk:k<n) (he:ps[k]? =some p):
  w.cell? ⟨bZ A,cP A+k*2,none⟩=some (.int .i64 p.th)∧w.cell? ⟨bZ A,cP A+k*2+1,none⟩=some (.int .i64 p.times):=by
 have key:∀ i,i<2→w.cell? ⟨bZ A,cP A+k*2+i,none⟩=p.cells[i]? :=fun i hi=>by
  rw[h.at_ hk hi,kx yg.cells 2 yg.fx ps k i p he hi]
 exact⟨key 0 (by omega),key 1 (by omega)⟩
end Go.Proofs.YtbcnnhlpilmmbaaGreat
