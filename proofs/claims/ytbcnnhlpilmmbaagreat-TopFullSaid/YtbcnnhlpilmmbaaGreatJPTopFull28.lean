/- Texts that are wanted for PTopFull.
   Conditions: none. -/
import Derived.Test.YtbcnnhlpilmmbaaGreatJPTopFull27
set_option maxRecDepth 100000
set_option maxHeartbeats 6400000
namespace Go.Proofs.YtbcnnhlpilmmbaaGreat
open Go Go.RowKit
theorem iB.low {B B':Nat} {C:Nat→Nat} {w w':World} (h:iB B C w w') (hC:∀ g,g<B'→C g=0) (JL:B'≤B) (hB:B'≤w.heap.size):Below B' w w':=
 ⟨h.os,h.tape,h.output,h.size,fun g hg=>by
  have e:=Array.getElem?_eq_getElem (show g<w.heap.size by omega)
  rw[e]
  exact h.keep g _ e (hC g hg) (.inr (by omega))⟩
variable {w:World}
theorem r3 {base:Nat} {e:TypeId} {size n:Nat} {v:Value} {xs:List Value} (h:w.ownsRow base e size v n xs) (hn:0<n):∃ g c,v= .slice (some ⟨g,0,none⟩) n c∧base≤g∧g<w.heap.size:=by
 rcases h.2 with ⟨_,h0⟩ | ⟨g,cap,cur,hv,hb,hh,_⟩
 ·omega
 ·exact⟨g,cap,hv,hb,lt_size hh⟩
theorem Ca:(Tryz.prog.info? 109).map (·.size)=some 9:=by kernel_rfl
theorem zt:(Tryz.prog.info? 49).map (fun i=>(i.zero,i.size,i.bytes))=some (some (.agg #[.int .i64 0,.bool false,.int .i64 0]),3,24):=by kernel_rfl
def Gc (M:ML) (k:Nat):aZ:=if k=0 then tj else if k=1 then qZ M else tl M
theorem IU (M:ML):Gc M 0=tj:=if_pos rfl
theorem IV (M:ML):Gc M 1=qZ M:=by unfold Gc;rw[if_neg (by decide),if_pos rfl]
theorem IW (M:ML):Gc M 2=tl M:=by unfold Gc;rw[if_neg (by decide),if_neg (by decide)]
variable {C:Nat→Nat}
theorem IX {b mb l9 Cx eB:Nat} {Cy Cz:Nat→Nat} (h:dx w C b ⟨mZ mb l9,Cx,Cy,Cz,eB⟩ tj):Calls Tryz.prog 39 #[.pointer (some ⟨b,0,none⟩),.int .i64 0] w (zi C b ⟨mZ mb l9,Cx,Cy,Cz,eB⟩ (.tuple #[]) (qZ (mZ mb l9)) w):=
 rZ h (dG.init nY (by decide) (by decide)) 0 10 (Ga mb l9) (by rw[show (aZ.turns (fP.M ⟨mZ mb l9,Cx,Cy,Cz,eB⟩) tj 0 10)=qZ (mZ mb l9) from rfl,(vy mb l9).1,(vy mb l9).2];decide)
theorem IY {b mb l9 Cx eB:Nat} {Cy Cz:Nat→Nat} (h:dx w C b ⟨mZ mb l9,Cx,Cy,Cz,eB⟩ (qZ (mZ mb l9))):Calls Tryz.prog 39 #[.pointer (some ⟨b,0,none⟩),.int .i64 1] w (zi C b ⟨mZ mb l9,Cx,Cy,Cz,eB⟩ (.tuple #[]) (tl (mZ mb l9)) w):=
 rZ h (l7 (dG.init nY (by decide) (by decide)) 0 10) 1 14 (Gb mb l9) (by rw[show (aZ.turns (fP.M ⟨mZ mb l9,Cx,Cy,Cz,eB⟩) (qZ (mZ mb l9)) 1 14)=tl (mZ mb l9) from rfl,(vz mb l9).1,(vz mb l9).2];decide)
structure tp (w0:World) (b:Nat) (E:fP) (e:aZ) (wr:World):Prop where
 bel:Below w0.heap.size w0 wr
 ex:∃ C,dx wr C b E e∧∀ g,g<w0.heap.size→C g=0
variable {w0 w':World} {b:Nat}
theorem tp.step {E:fP} {e:aZ} (h:tp w0 b E e w) (hb:Below w.heap.size w w'):tp w0 b E e w':=by
 obtain⟨C,h1,h2⟩:=h.ex
 exact⟨h.bel.trans (hb.mono h.bel.size),C,h1.step hb,h2⟩
theorem tp.pick {E:fP} {e':aZ} {C:Nat→Nat} {v:Value} {r:Ending} (hb:Below w0.heap.size w0 w) (h2:∀ g,g<w0.heap.size→C g=0) (hB:w0.heap.size≤E.B) (hp:zi C b E v e' w r w'):tp w0 b E e' w':=by
 obtain⟨C',ag,hE⟩:=hp.own
 exact⟨hb.trans (hp.fr.low h2 hB hb.size),C',hE,fun g hg=>(ag g (by have:=hb.size;omega)).trans (h2 g hg)⟩
structure K2 (w:World) (e:Ending) (w':World):Prop where
 ex:∃ b g c,e= .returned (.tuple #[.pointer (some ⟨b,0,none⟩),.slice (some ⟨g,0,none⟩) 2 c,.int .i64 0])∧w'.ownsRow w.heap.size 49 3 (.slice (some ⟨g,0,none⟩) 2 c) 2 [.int .i64 0,.bool true,.int .i64 0,.int .i64 0,.bool true,.int .i64 5]
 bel:Below w.heap.size w w'
theorem Cb (w:World) (tb:Nat) (ht:a8 w tb 67 ga):Calls Tryz.prog 21 #[.agg l8,.slice (some ⟨tb,0,none⟩) 2 2] w (K2 w):=by
 have HB:=fun W (h:a8 W tb 67 ga)=>xy W tb h
 have HT:=Lib.hid ht
 obtain⟨iR,Mj,zR,sR,bR⟩:=info_parts zt
 have hb1:Below w.heap.size w (w.alloc (.cells l8 65)):=(Below.refl _ _).alloc (Nat.le_refl _) _
 have hcb:=a8.new w 65 l8
 have hc:=hcb.cells
 go_enter Tryz.func21,Tryz.ntmps21
 go_wp2_with fail
 generalize(w.alloc (.cells l8 65))=w1 at *
 refine(HB w1 (HT.out.below hb1 HT.out.lt)).mono ?_
 rintro r w2 ⟨⟨b,E,C,rfl,hL,hEB,hlow,hE⟩,hb2⟩
 obtain⟨⟨mb,l9,L⟩,Cx,Cy,Cz,eB⟩:=E
 simp only at hL hEB
 subst hL
 have hI0:tp w b ⟨mZ mb l9,Cx,Cy,Cz,eB⟩ (Gc (mZ mb l9) 0) w2:=by
  rw[IU]
  exact⟨hb1.trans (hb2.mono hb1.size),C,hE,fun g hg=>hlow g (by have:=hb1.size;omega)⟩
 have IZ:w.heap.size≤eB:=by have:=hb1.size;omega
 have hok0:dG (mZ mb l9) tj:=dG.init nY (by decide) (by decide)
 clear hE hlow hb2 hb1 hcb hc hEB
 go_wp2_with fail
 go_loopw [25] (fun i wr=>∃ k:Nat,k≤2∧i= .int .i64 k∧tp w b ⟨mZ mb l9,Cx,Cy,Cz,eB⟩ (Gc (mZ mb l9) k) wr) (fun i _=>2 - (intOf i).toNat)
 case atStart=>exact⟨0,by omega,rfl,hI0⟩
 case round=>
  clear hI0
  obtain⟨k,hk,rfl,hI⟩:=hrel
  have htb:=HT.out.below hI.bel HT.out.lt
  have htc:=htb.cells
  by_cases hlt2:k<2
  ·rcases Nat.lt_or_ge k 1 with h01 | h01
   ·obtain rfl:k=0:=by omega
    have dk:decide (((0:Nat):Int)<2)=true:=decide_eq_true (by omega)
    rw[IU] at hI
    have hix:=(show Sl wr wr.heap.size 3 (some ⟨tb,0,none⟩) 2 ga.toList from ⟨rfl,fun _=>rfl,fun _=>htb.lt,fun j hj=>by rw[show bt (some (⟨tb,0,none⟩:Addr))=tb from rfl,show bY (some (⟨tb,0,none⟩:Addr))=0 from rfl,Nat.zero_add,htb.cell];simp⟩).idx (P:=Tryz.prog) (c:=2) Tryz.underlying102 tn (k:=0) (by omega)
    have htx:=a8.new wr 67 #[.int .i64 0,.int .i64 4,.int .i64 5]
    have hal:Below wr.heap.size wr (wr.alloc (.cells #[.int .i64 0,.int .i64 4,.int .i64 5] 67)):=(Below.refl _ _).alloc (Nat.le_refl _) _
    have Cc:=hI.step hal
    have pW:=htx.cells
    clear hal hI
    go_wp2_with fail
    obtain⟨C4,EL,hl4⟩:=Cc.ex
    refine(IX EL).mono ?_
    intro r w5 hp
    have mf:=tp.pick Cc.bel hl4 IZ hp
    obtain rfl:=hp.ret
    clear hp EL hl4 Cc htx pW htb htc
    go_wp2_with fail
    go_roundw
    case rel=>exact⟨1,by omega,by go_num,by rw[IV];exact mf⟩
    case measure=>simp[intOf]
   ·obtain rfl:k=1:=by omega
    have dk:decide (((1:Nat):Int)<2)=true:=decide_eq_true (by omega)
    rw[IV] at hI
    have hix:=(show Sl wr wr.heap.size 3 (some ⟨tb,0,none⟩) 2 ga.toList from ⟨rfl,fun _=>rfl,fun _=>htb.lt,fun j hj=>by rw[show bt (some (⟨tb,0,none⟩:Addr))=tb from rfl,show bY (some (⟨tb,0,none⟩:Addr))=0 from rfl,Nat.zero_add,htb.cell];simp⟩).idx (P:=Tryz.prog) (c:=2) Tryz.underlying102 tn (k:=1) (by omega)
    have htx:=a8.new wr 67 #[.int .i64 1,.int .i64 5,.int .i64 0]
    have hal:Below wr.heap.size wr (wr.alloc (.cells #[.int .i64 1,.int .i64 5,.int .i64 0] 67)):=(Below.refl _ _).alloc (Nat.le_refl _) _
    have Cc:=hI.step hal
    have pW:=htx.cells
    clear hal hI
    go_wp2_with fail
    obtain⟨C4,EL,hl4⟩:=Cc.ex
    refine(IY EL).mono ?_
    intro r w5 hp
    have mf:=tp.pick Cc.bel hl4 IZ hp
    obtain rfl:=hp.ret
    clear hp EL hl4 Cc htx pW htb htc
    go_wp2_with fail
    go_roundw
    case rel=>exact⟨2,by omega,by go_num,by rw[IW];exact mf⟩
    case measure=>simp[intOf]
  ·have dk:decide ((k:Int)<2)=false:=decide_eq_false (by omega)
   obtain rfl:k=2:=by omega
   rw[IW] at hI
   clear htb htc
   go_wp2_with fail
   obtain⟨C4,EL,hl4⟩:=hI.ex
   refine(nm EL (by rw[show (tl (mZ mb l9)).hist.evs.length=4 by kernel_rfl];omega)).mono ?_
   rintro r w5 ⟨hb,rfl,hh,hb5⟩
   have mf:=hI.step hb5
   have hsz5:=hb5.size
   clear EL hI hb5
   go_wp2_with fail
   refine(pK hb _ wr.heap.size w5 hh (by rw[show (tl (mZ mb l9)).hist.evs.length=4 by kernel_rfl];omega)).mono ?_
   rintro r w6 ⟨v,rfl,ho,hb6⟩
   rw[show (tl (mZ mb l9)).hist.calls=[⟨0,1,0,0,4,5,0,true,0⟩,⟨2,3,1,1,5,0,0,true,5⟩] from B6 mb l9] at ho
   obtain⟨g,c,rfl,hg1,hg2⟩:=r3 ho (by decide)
   have zN:=mf.step hb6
   have hsl:Sl w6 w6.heap.size 9 (some ⟨g,0,none⟩) 2 (([⟨0,1,0,0,4,5,0,true,0⟩,⟨2,3,1,1,5,0,0,true,5⟩]:List HC).flatMap HC.cells):=Sl.cB ho
   clear hh mf hb6 ho hg1 hg2 hsz5
   go_wp2_with fail
   obtain⟨BB,JL⟩:∃ BB,w6.heap.size=BB:=⟨_,rfl⟩
   have I0:Below BB w6 w6:=Below.refl _ _
   rw[JL] at hsl
   have I1:w6.ownsRow BB 49 3 (.slice none 0 0) 0 []:=⟨rfl,.inl ⟨rfl,rfl⟩⟩
   have JM:=Lib.hid JL
   have HI:=Lib.hid zN
   have Cd:=zN.bel
   clear JL zN
   go_loopw [11,38] (fun v i wr=>∃ k:Nat,k≤2∧i= .int .i64 k∧Below BB w6 wr∧wr.ownsRow BB 49 3 v k (([.int .i64 0,.bool true,.int .i64 0,.int .i64 0,.bool true,.int .i64 5]:List Value).take (3*k))) (fun _ i _=>2 - (intOf i).toNat)
   case atStart=>exact⟨0,by omega,rfl,I0,I1⟩
   case round=>
    clear I1 I0
    obtain⟨k,hk,rfl,hbb,own⟩:=hrel
    by_cases hlt2:k<2
    ·rcases Nat.lt_or_ge k 1 with h01 | h01
     ·obtain rfl:k=0:=by omega
      have dk:decide (((0:Nat):Int)<2)=true:=decide_eq_true (by omega)
      simp only [List.take] at own
      obtain⟨A7,c7,rfl,-,hnil,-⟩:=bF own
      have hix:=(hsl.below hbb).idx (P:=Tryz.prog) (c:=c) Tryz.underlying97 Ca (k:=0) (by omega)
      have hsc:=(hsl.below hbb)
      have f0:=hsc.cell 0 (by omega)
      have f1:=hsc.cell 1 (by omega)
      have f2:=hsc.cell 2 (by omega)
      have f3:=hsc.cell 3 (by omega)
      have f4:=hsc.cell 4 (by omega)
      have f5:=hsc.cell 5 (by omega)
      have f6:=hsc.cell 6 (by omega)
      have f7:=hsc.cell 7 (by omega)
      have f8:=hsc.cell 8 (by omega)
      simp only[HC.cells,List.flatMap_cons,List.flatMap_nil,List.cons_append,List.nil_append,List.append_nil,List.getElem?_cons_succ,List.getElem?_cons_zero] at f0 f1 f2 f3 f4 f5 f6 f7 f8
      simp only[show bt (some (⟨g,0,none⟩:Addr))=g from rfl,show bY (some (⟨g,0,none⟩:Addr))=0 from rfl,Nat.zero_add] at f0 f1 f2 f3 f4 f5 f6 f7 f8
      have htx:=a8.new wr 109 #[.int .i64 0,.int .i64 1,.int .i64 0,.int .i64 0,.int .i64 4,.int .i64 5,.int .i64 0,.bool true,.int .i64 0]
      have hal:Below wr.heap.size wr (wr.alloc (.cells #[.int .i64 0,.int .i64 1,.int .i64 0,.int .i64 0,.int .i64 4,.int .i64 5,.int .i64 0,.bool true,.int .i64 0] 109)):=(Below.refl _ _).alloc (Nat.le_refl _) _
      have hBw:BB≤wr.heap.size:=by have:=hbb.size;have:=JM.out;omega
      have Gd:=hbb.trans (hal.mono hBw)
      have jM:=cW own hal
      have pW:=htx.cells
      clear hal own hsc
      go_wp2_with fail
      refine(ju _ _ _ false rfl).mono ?_
      rintro r w7 ⟨rfl,hb7⟩
      have hBw2:BB≤(wr.alloc (.cells #[.int .i64 0,.int .i64 1,.int .i64 0,.int .i64 0,.int .i64 4,.int .i64 5,.int .i64 0,.bool true,.int .i64 0] 109)).heap.size:=by simp;omega
      have Ge:=Gd.trans (hb7.mono hBw2)
      replace jM:=cW jM hb7
      replace htx:=htx.step hb7
      clear pW
      have pW:=htx.cells
      have hxl:=htx.lt
      have hBw3:BB≤w7.heap.size:=Nat.le_trans hBw2 hb7.size
      clear f0 f1 f2 f3 f4 f5 f6 f7 f8 hb7
      have mW:=jM.alloc (.cells #[.int .i64 0,.bool true,.int .i64 0] 49)
      go_wp2_with (at_builtin;refine wpList_append_lies _ rfl _ _ _ rfl BB 49 iR _ 3 24 Tryz.underlying61 Mj zR sR bR rfl (by omega) (.slice A7 0 c7) 0 [] rfl mW ⟨w7.heap.size,0,none⟩ 1 1 [.int .i64 0,.bool true,.int .i64 0] rfl rfl (World.news_of_block (heap_alloc_new w7 _)) (fun u hu=>by simp at hu;rcases hu with rfl | rfl | rfl<;>rfl) (by omega) (by decide) (by omega) (by simp;omega) (w7.heap.size+1) (by simp) ?_;intro g7 K3 w8 hown2 hgrow hat K4)
      have Gf:Below BB w6 w8:=(Ge.alloc hBw3 (.cells #[.int .i64 0,.bool true,.int .i64 0] 49)).grown hgrow (by simp;omega) (fun x hx=>(bH mW x hx).1)
      clear htx pW jM mW hgrow hat
      go_wp2_with fail
      go_roundw
      case rel=>exact⟨1,by omega,by go_num,Gf,by simpa using hown2⟩
      case measure=>simp[intOf]
     ·obtain rfl:k=1:=by omega
      have dk:decide (((1:Nat):Int)<2)=true:=decide_eq_true (by omega)
      simp only [List.take] at own
      obtain⟨A7,c7,rfl,-,-,-⟩:=bF own
      have hix:=(hsl.below hbb).idx (P:=Tryz.prog) (c:=c) Tryz.underlying97 Ca (k:=1) (by omega)
      have hsc:=(hsl.below hbb)
      have f0:=hsc.cell 9 (by omega)
      have f1:=hsc.cell 10 (by omega)
      have f2:=hsc.cell 11 (by omega)
      have f3:=hsc.cell 12 (by omega)
      have f4:=hsc.cell 13 (by omega)
      have f5:=hsc.cell 14 (by omega)
      have f6:=hsc.cell 15 (by omega)
      have f7:=hsc.cell 16 (by omega)
      have f8:=hsc.cell 17 (by omega)
      simp only[HC.cells,List.flatMap_cons,List.flatMap_nil,List.cons_append,List.nil_append,List.append_nil,List.getElem?_cons_succ,List.getElem?_cons_zero] at f0 f1 f2 f3 f4 f5 f6 f7 f8
      simp only[show bt (some (⟨g,0,none⟩:Addr))=g from rfl,show bY (some (⟨g,0,none⟩:Addr))=0 from rfl,Nat.zero_add] at f0 f1 f2 f3 f4 f5 f6 f7 f8
      have htx:=a8.new wr 109 #[.int .i64 2,.int .i64 3,.int .i64 1,.int .i64 1,.int .i64 5,.int .i64 0,.int .i64 0,.bool true,.int .i64 5]
      have hal:Below wr.heap.size wr (wr.alloc (.cells #[.int .i64 2,.int .i64 3,.int .i64 1,.int .i64 1,.int .i64 5,.int .i64 0,.int .i64 0,.bool true,.int .i64 5] 109)):=(Below.refl _ _).alloc (Nat.le_refl _) _
      have hBw:BB≤wr.heap.size:=by have:=hbb.size;have:=JM.out;omega
      have Gd:=hbb.trans (hal.mono hBw)
      have jM:=cW own hal
      have pW:=htx.cells
      clear hal own hsc
      go_wp2_with fail
      refine(ju _ _ _ false rfl).mono ?_
      rintro r w7 ⟨rfl,hb7⟩
      have hBw2:BB≤(wr.alloc (.cells #[.int .i64 2,.int .i64 3,.int .i64 1,.int .i64 1,.int .i64 5,.int .i64 0,.int .i64 0,.bool true,.int .i64 5] 109)).heap.size:=by simp;omega
      have Ge:=Gd.trans (hb7.mono hBw2)
      replace jM:=cW jM hb7
      replace htx:=htx.step hb7
      clear pW
      have pW:=htx.cells
      have hxl:=htx.lt
      have hBw3:BB≤w7.heap.size:=Nat.le_trans hBw2 hb7.size
      clear f0 f1 f2 f3 f4 f5 f6 f7 f8 hb7
      have mW:=jM.alloc (.cells #[.int .i64 0,.bool true,.int .i64 5] 49)
      go_wp2_with (at_builtin;refine wpList_append_lies _ rfl _ _ _ rfl BB 49 iR _ 3 24 Tryz.underlying61 Mj zR sR bR rfl (by omega) (.slice A7 1 c7) 1 [.int .i64 0,.bool true,.int .i64 0] rfl mW ⟨w7.heap.size,0,none⟩ 1 1 [.int .i64 0,.bool true,.int .i64 5] rfl rfl (World.news_of_block (heap_alloc_new w7 _)) (fun u hu=>by simp at hu;rcases hu with rfl | rfl | rfl<;>rfl) (by omega) (by decide) (by omega) (by simp;omega) (w7.heap.size+1) (by simp) ?_;intro g7 K3 w8 hown2 hgrow hat K4)
      have Gf:Below BB w6 w8:=(Ge.alloc hBw3 (.cells #[.int .i64 0,.bool true,.int .i64 5] 49)).grown hgrow (by simp;omega) (fun x hx=>(bH mW x hx).1)
      clear htx pW jM mW hgrow hat
      go_wp2_with fail
      go_roundw
      case rel=>exact⟨2,by omega,by go_num,Gf,by simpa using hown2⟩
      case measure=>simp[intOf]
    ·have dk:decide ((k:Int)<2)=false:=decide_eq_false (by omega)
     obtain rfl:k=2:=by omega
     obtain⟨g7,c7,rfl,NL,-⟩:=r3 own (by decide)
     go_wp2_with fail
     go_ret3
     exact⟨⟨b,g7,c7,rfl,eh own (by have:=Cd.size;have:=JM.out;omega)⟩,Cd.trans (hbb.mono (by have:=Cd.size;have:=JM.out;omega))⟩
theorem Gg:(Tryz.prog.info? 49).map (·.size)=some 3:=by kernel_rfl
theorem xA (w:World):Calls Tryz.prog 6 #[] w fun e w'=>e= .returned (.bool false)∧Below w.heap.size w w':=by
 have hal:Below w.heap.size w (w.alloc (.cells ga 67)):=(Below.refl _ _).alloc (Nat.le_refl _) _
 have htb:=a8.new w 67 ga
 go_enter Tryz.func6,Tryz.ntmps6
 go_wp2_with fail
 refine(Cb _ _ htb).mono ?_
 rintro r w2 ⟨⟨b,g,c,rfl,own⟩,hb2⟩
 have hsl:=Sl.cB own
 have hix:=hsl.idx (P:=Tryz.prog) (c:=c) Tryz.underlying61 Gg (k:=1) (by omega)
 have f0:=hsl.cell 3 (by omega)
 have f1:=hsl.cell 4 (by omega)
 have f2:=hsl.cell 5 (by omega)
 simp only[List.getElem?_cons_succ,List.getElem?_cons_zero] at f0 f1 f2
 simp only[show bt (some (⟨g,0,none⟩:Addr))=g from rfl,show bY (some (⟨g,0,none⟩:Addr))=0 from rfl,Nat.zero_add] at f0 f1 f2
 have hb:=hal.trans (hb2.mono hal.size)
 clear hsl own htb hal hb2
 go_wp2_with fail
 go_ret
 exact⟨rfl,hb⟩
theorem nr {a b:Bool} (h:a=b):Ending.returned (.bool a)= .returned (.bool b):=by rw[h]
theorem Ee (sh:Int) (o:Opn) (w:World):Calls Tryz.prog 55 #[.int .i64 sh,.agg #[.int .i64 o.kind,.int .i64 o.key]] w fun e w'=>e= .returned (.bool (may sh o))∧Below w.heap.size w w':=by
 obtain⟨kind,key⟩:=o
 have hb:Below w.heap.size w (w.alloc (.cells #[.int .i64 kind,.int .i64 key] 46)):=(Below.refl _ _).alloc (Nat.le_refl _) _
 have HB:=Lib.hid hb
 clear hb
 have H:Hid (may sh ⟨kind,key⟩=decide (ly sh kind key)):=rfl
 by_cases h0:key<0
 ·have hm:=Lib.hid (show may sh ⟨kind,key⟩=false by rw[H.out,decide_eq_false];unfold ly;omega)
  go_enter Tryz.func55,Tryz.ntmps55
  go_wp2
  go_ret
  exact⟨nr hm.out.symm,HB.out⟩
 ·by_cases h9:999<key
  ·have hm:=Lib.hid (show may sh ⟨kind,key⟩=false by rw[H.out,decide_eq_false];unfold ly;omega)
   go_enter Tryz.func55,Tryz.ntmps55
   go_wp2
   go_ret
   exact⟨nr hm.out.symm,HB.out⟩
  ·have d0:decide (key<0)=false:=by simpa using h0
   have d9:decide (999<key)=false:=by simpa using h9
   by_cases h12:sh=1∨sh=2
   ·have hm:=Lib.hid (show may sh ⟨kind,key⟩=(decide (1≤kind) && decide (kind≤3)) by rw[H.out,Bool.eq_iff_iff,Bool.and_eq_true,decide_eq_true_eq,decide_eq_true_eq,decide_eq_true_eq];unfold ly;omega)
    clear h0 h9
    rcases h12 with rfl | rfl
    all_goals
     by_cases h1:1≤kind
     ·go_enter Tryz.func55,Tryz.ntmps55
      go_wp2
      go_ret
      exact⟨nr (by rw[hm.out];simp[h1]),HB.out⟩
     ·have d1:decide (1≤kind)=false:=by simpa using h1
      have hm2:=Lib.hid (show false=(decide (1≤kind) && decide (kind≤3)) by rw[d1];rfl)
      clear h1
      go_enter Tryz.func55,Tryz.ntmps55
      go_wp2
      go_ret
      exact⟨nr (by rw[hm.out];exact hm2.out),HB.out⟩
   ·have e1:(sh==1)=false:=by simp;omega
    have e2:(sh==2)=false:=by simp;omega
    by_cases Mk:sh=3∨sh=4
    ·have hm:=Lib.hid (show may sh ⟨kind,key⟩=((kind==4) || ((kind==5) && (key==0))) by rw[H.out,Bool.eq_iff_iff,decide_eq_true_eq,Bool.or_eq_true,Bool.and_eq_true,beq_iff_eq,beq_iff_eq,beq_iff_eq];unfold ly;omega)
     clear h0 h9 h12 e1 e2
     rcases Mk with rfl | rfl
     all_goals
      by_cases h4:kind=4
      ·subst h4
       go_enter Tryz.func55,Tryz.ntmps55
       go_wp2
       go_ret
       exact⟨nr (by rw[hm.out];rfl),HB.out⟩
      ·have e4:(kind==4)=false:=by simpa using h4
       by_cases h5:kind=5
       ·subst h5
        go_enter Tryz.func55,Tryz.ntmps55
        go_wp2
        go_ret
        exact⟨nr (by rw[hm.out];simp),HB.out⟩
       ·have e5:(kind==5)=false:=by simpa using h5
        go_enter Tryz.func55,Tryz.ntmps55
        go_wp2
        go_ret
        exact⟨nr (by rw[hm.out];simp[e4,e5]),HB.out⟩
    ·have e3:(sh==3)=false:=by simp;omega
     have e4:(sh==4)=false:=by simp;omega
     have hm:=Lib.hid (show may sh ⟨kind,key⟩=false by rw[H.out,decide_eq_false];unfold ly;omega)
     clear h0 h9 h12 Mk
     go_enter Tryz.func55,Tryz.ntmps55
     go_wp2
     go_ret
     exact⟨nr hm.out.symm,HB.out⟩
theorem dF.vals {B n:Nat} {A:Option Addr} {ops:List (List Opn)} (h:dF w B A n ops) {k:Nat} (hk:k<n):∃ l A' c',ops[k]? =some l∧w.cell? ⟨bt A,bY A+k,none⟩=some (.slice A' l.length c')∧Sl w B 2 A' l.length (l.flatMap Opn.cells):=by
 obtain⟨l,hl⟩:∃ l,ops[k]? =some l:=⟨_,List.getElem?_eq_getElem (by rw[h.len];exact hk)⟩
 obtain⟨A',n',c',h1,h2,rfl⟩:=h.at_ hl
 exact⟨l,A',c',hl,h1,h2⟩
theorem vA (sh th nd tr:Int) (A:Option Addr) (n cap B:Nat) (ops:List (List Opn)) (AL:Option Addr) (m cl:Nat) (w:World) (hs:dF w B A n ops) (hB:B≤w.heap.size):
  Calls Tryz.prog 22 #[.agg #[.int .i64 sh,.int .i64 th,.int .i64 nd,.int .i64 tr,.slice A n cap],.slice AL m cl] w fun e w'=>(∃ r,e= .returned (.bool r)∧(r=false→m≤60))∧Below w.heap.size w w':=by
 obtain⟨N,hN⟩:∃ N,w.heap.size=N:=⟨_,rfl⟩
 rw[hN] at hB⊢
 have hb1:Below N w (w.alloc (.cells #[.int .i64 sh,.int .i64 th,.int .i64 nd,.int .i64 tr,.slice A n cap] 24)):=(Below.refl _ _).alloc (by omega) _
 have x1:=a8.newAt w 24 #[.int .i64 sh,.int .i64 th,.int .i64 nd,.int .i64 tr,.slice A n cap] hN.symm
 have hc1:=x1.cells
 have HW:=Lib.hid hN
 by_cases h10:10<n
 ·have d1:decide ((n:Int)>10)=true:=decide_eq_true (by omega)
  go_enter Tryz.func22,Tryz.ntmps22
  go_wp2_with fail
  go_ret
  exact⟨⟨true,rfl,fun h=>by cases h⟩,hb1⟩
 have d1:decide ((n:Int)>10)=false:=decide_eq_false (by omega)
 by_cases h60:60<m
 ·have d2:decide ((m:Int)>60)=true:=decide_eq_true (by omega)
  go_enter Tryz.func22,Tryz.ntmps22
  go_wp2_with fail
  go_ret
  exact⟨⟨true,rfl,fun h=>by cases h⟩,hb1⟩
 have d2:decide ((m:Int)>60)=false:=decide_eq_false (by omega)
 have Nj:=Lib.hid h60
 clear h60
 go_enter Tryz.func22,Tryz.ntmps22
 go_wp2_with fail
 clear hN
 generalize(w.alloc (.cells #[.int .i64 sh,.int .i64 th,.int .i64 nd,.int .i64 tr,.slice A n cap] 24))=w1 at *
 go_loopw [19] (fun i wr=>∃ k:Nat,k≤n∧i= .int .i64 k∧wr=w1) (fun i _=>n - (intOf i).toNat)
 case atStart=>exact⟨0,by omega,rfl,rfl⟩
 case round=>
  obtain⟨k,hk,rfl,rfl⟩:=hrel
  by_cases hlt:k<n
  ·have dk:decide ((k:Int)<(n:Int))=true:=decide_eq_true (by omega)
   have hsw:=hs.below (hb1.mono hB)
   obtain⟨l,A',c',hl,f0,-⟩:=hsw.vals hlt
   have hidx:=hsw.idx (cap:=cap) hlt
   by_cases h50:50<l.length
   ·have d5:decide ((l.length:Int)>50)=true:=decide_eq_true (by omega)
    clear hsw hl
    go_wp2_with fail
    go_ret
    exact⟨⟨true,rfl,fun h=>by cases h⟩,hb1⟩
   ·have d5:decide ((l.length:Int)>50)=false:=decide_eq_false (by omega)
    clear hsw hl
    go_wp2_with fail
    go_roundw
    case rel=>exact⟨k+1,by omega,by go_num,by first | rfl | exact trivial⟩
    case measure=>simp[intOf]<;>omega
  ·have dk:decide ((k:Int)<(n:Int))=false:=decide_eq_false (by omega)
   go_wp2_with fail
   go_ret
   exact⟨⟨false,rfl,fun _=>by have:=Nj.out;omega⟩,hb1⟩
structure yk (sh th nd tr:Int) (n:Nat) (ops:List (List Opn)):Prop where
 cfg:vi sh tr ⟨th,nd⟩
 n:(n:Int)≤th
 xw:∀ l∈ops,l.length≤40
 may:∀ l∈ops,l.all (may sh)=true
structure I2 (sh th nd tr:Int) (n:Nat) (ops:List (List Opn)) (w:World) (e:Ending) (w':World):Prop where
 ex:∃ z:Int,e= .returned (.int .i64 z)∧(z=0→yk sh th nd tr n ops)
 bel:Below w.heap.size w w'
theorem pX {ops:List (List Opn)} {p:List Opn→Prop} (h:∀ (k:Nat) (l:List Opn),ops[k]? =some l→p l):∀ l∈ops,p l:=fun l hl=>by
 obtain⟨k,hk,e⟩:=List.getElem_of_mem hl
 exact h k l (by rw[List.getElem?_eq_getElem hk,e])
theorem vB (sh th nd tr:Int) (A:Option Addr) (n cap B:Nat) (ops:List (List Opn)) (w:World) (hs:dF w B A n ops) (hB:B≤w.heap.size):
  Calls Tryz.prog 42 #[.int .i64 sh,.int .i64 th,.int .i64 nd,.int .i64 tr,.slice A n cap] w (I2 sh th nd tr n ops w):=by
 by_cases h1:sh<1∨sh>4
 ·have d:decide (sh<1)=true∨(decide (sh<1)=false∧decide (sh>4)=true):=by rcases h1 with h | h;exact .inl (decide_eq_true h);by_cases h2:sh<1;exact .inl (decide_eq_true h2);exact .inr ⟨decide_eq_false h2,decide_eq_true h⟩
  clear h1
  rcases d with d | ⟨d,d2⟩
  all_goals
   go_enter Tryz.func42,Tryz.ntmps42
   go_wp2_with fail
   go_ret
   exact⟨⟨1,rfl,fun h=>absurd h (by decide)⟩,Below.refl _ _⟩
 have d1:decide (sh<1)=false:=decide_eq_false (by omega)
 have d2:decide (sh>4)=false:=decide_eq_false (by omega)
 have H1:=Lib.hid h1
 clear h1
 by_cases h2:th<1∨th>8∨nd<1∨nd>200∨tr<0∨tr>50
 ·by_cases c0:th<1
  ·have e0:decide (th<1)=true:=decide_eq_true c0
   clear h2 c0
   go_enter Tryz.func42,Tryz.ntmps42
   go_wp2_with fail
   go_ret
   exact⟨⟨2,rfl,fun h=>absurd h (by decide)⟩,Below.refl _ _⟩
  have e0:decide (th<1)=false:=decide_eq_false c0
  by_cases c1:th>8
  ·have e1:decide (th>8)=true:=decide_eq_true c1
   clear h2 c1
   go_enter Tryz.func42,Tryz.ntmps42
   go_wp2_with fail
   go_ret
   exact⟨⟨2,rfl,fun h=>absurd h (by decide)⟩,Below.refl _ _⟩
  have e1:decide (th>8)=false:=decide_eq_false c1
  by_cases c2:nd<1
  ·have e2:decide (nd<1)=true:=decide_eq_true c2
   clear h2 c2
   go_enter Tryz.func42,Tryz.ntmps42
   go_wp2_with fail
   go_ret
   exact⟨⟨2,rfl,fun h=>absurd h (by decide)⟩,Below.refl _ _⟩
  have e2:decide (nd<1)=false:=decide_eq_false c2
  by_cases c3:nd>200
  ·have e3:decide (nd>200)=true:=decide_eq_true c3
   clear h2 c3
   go_enter Tryz.func42,Tryz.ntmps42
   go_wp2_with fail
   go_ret
   exact⟨⟨2,rfl,fun h=>absurd h (by decide)⟩,Below.refl _ _⟩
  have e3:decide (nd>200)=false:=decide_eq_false c3
  by_cases c4:tr<0
  ·have e4:decide (tr<0)=true:=decide_eq_true c4
   clear h2 c4
   go_enter Tryz.func42,Tryz.ntmps42
   go_wp2_with fail
   go_ret
   exact⟨⟨2,rfl,fun h=>absurd h (by decide)⟩,Below.refl _ _⟩
  have e4:decide (tr<0)=false:=decide_eq_false c4
  by_cases c5:tr>50
  ·have e5:decide (tr>50)=true:=decide_eq_true c5
   clear h2 c5
   go_enter Tryz.func42,Tryz.ntmps42
   go_wp2_with fail
   go_ret
   exact⟨⟨2,rfl,fun h=>absurd h (by decide)⟩,Below.refl _ _⟩
  have e5:decide (tr>50)=false:=decide_eq_false c5
  exact absurd h2 (by omega)
 have d3:decide (th<1)=false:=decide_eq_false (by omega)
 have d4:decide (th>8)=false:=decide_eq_false (by omega)
 have d5:decide (nd<1)=false:=decide_eq_false (by omega)
 have d6:decide (nd>200)=false:=decide_eq_false (by omega)
 have d7:decide (tr<0)=false:=decide_eq_false (by omega)
 have d8:decide (tr>50)=false:=decide_eq_false (by omega)
 have H2:=Lib.hid h2
 by_cases h3:(n:Int)>th
 ·have d:decide ((n:Int)>th)=true:=decide_eq_true h3
  clear h2 h3
  go_enter Tryz.func42,Tryz.ntmps42
  go_wp2_with fail
  go_ret
  exact⟨⟨6,rfl,fun h=>absurd h (by decide)⟩,Below.refl _ _⟩
 have d9:decide ((n:Int)>th)=false:=decide_eq_false h3
 have H3:=Lib.hid h3
 have KQ:n≤8:=by omega
 clear h2 h3
 go_enter Tryz.func42,Tryz.ntmps42
 go_wp2_with fail
 go_loopw [11] (fun i wr=>∃ k:Nat,k≤n∧i= .int .i64 k∧w=wr∧Hid (∀ v l,v<k→ops[v]? =some l→l.length≤40)) (fun i _=>n - (intOf i).toNat)
 case atStart=>exact⟨0,by omega,rfl,rfl,Lib.hid (fun v l h=>absurd h (by omega))⟩
 case round=>
  obtain⟨k,hk,rfl,rfl,H4⟩:=hrel
  by_cases hlt:k<n
  ·have dk:decide ((k:Int)<(n:Int))=true:=decide_eq_true (by omega)
   obtain⟨l,A',c',hl,f0,-⟩:=hs.vals hlt
   have hidx:=hs.idx (cap:=cap) hlt
   by_cases xw:40<l.length
   ·have d:decide ((l.length:Int)>40)=true:=decide_eq_true (by omega)
    clear hl
    go_wp2_with fail
    go_ret
    exact⟨⟨6,rfl,fun h=>absurd h (by decide)⟩,Below.refl _ _⟩
   ·have d:decide ((l.length:Int)>40)=false:=decide_eq_false (by omega)
    have HL:=Lib.hid hl
    clear hl
    go_wp2_with fail
    go_roundw
    case rel=>exact⟨k+1,by omega,by go_num,by first | rfl | exact trivial,Lib.hid (fun v l2 hv h2=>by
     by_cases e:v=k
     ·subst e;rw[HL.out] at h2;injection h2 with h2;subst h2;omega
     ·exact H4.out v l2 (by omega) h2)⟩
    case measure=>simp[intOf]<;>omega
  ·have dk:decide ((k:Int)<(n:Int))=false:=decide_eq_false (by omega)
   obtain rfl:k=n:=by omega
   go_wp2_with fail
   obtain⟨N,hN⟩:∃ N,w.heap.size=N:=⟨_,rfl⟩
   have HN:=Lib.hid hN
   clear hN
   have hBN:B≤N:=by have:=HN.out;omega
   go_loopw [12] (fun i wr=>∃ k2:Nat,k2≤k∧i= .int .i64 k2∧Below N w wr∧Hid (∀ v l,v<k2→ops[v]? =some l→l.all (may sh)=true)) (fun i _=>k - (intOf i).toNat)
   case atStart=>exact⟨0,by omega,rfl,Below.refl _ _,Lib.hid (fun v l h=>absurd h (by omega))⟩
   case round=>
    obtain⟨k2,hk2,rfl,hbw2,H5⟩:=hrel
    by_cases hlt2:k2<k
    ·have dk2:decide ((k2:Int)<(k:Int))=true:=decide_eq_true (by omega)
     have hsw:=hs.below (hbw2.mono hBN)
     obtain⟨l,A',c',hl,f0,hsl⟩:=hsw.vals hlt2
     have hidx:=hsw.idx (cap:=cap) hlt2
     have xw:=H4.out k2 l hlt2 hl
     have HL:=Lib.hid hl
     clear hl
     go_wp2_with fail
     go_loopw [13] (fun i wi=>∃ j:Nat,j≤l.length∧i= .int .i64 j∧Below N w wi∧Hid ((l.take j).all (may sh)=true)) (fun i _=>l.length - (intOf i).toNat)
     case atStart=>exact⟨0,by omega,rfl,hbw2,Lib.hid rfl⟩
     case round=>
      obtain⟨j,hj,rfl,hbw,H6⟩:=hrel
      have Ef:=hs.below (hbw.mono hBN)
      obtain⟨l3,A3,c3,hl3,f3,Eg⟩:=Ef.vals hlt2
      rw[HL.out] at hl3
      injection hl3 with hl3
      subst hl3
      clear f0 hidx hsl hsw
      have hidx3:=Ef.idx (cap:=cap) hlt2
      by_cases hjl:j<l.length
      ·have dj:decide ((j:Int)<(l.length:Int))=true:=decide_eq_true (by omega)
       obtain⟨o,ho⟩:∃ o,l[j]? =some o:=⟨_,List.getElem?_eq_getElem hjl⟩
       have Nk:=Eg.idx (P:=Tryz.prog) (c:=c3) Tryz.underlying52 EE hjl
       obtain⟨o1,o2⟩:=rO Eg hjl ho
       have HO:=Lib.hid ho
       clear Ef Eg ho
       go_wp2_with fail
       refine(Ee sh o _).mono ?_
       rintro r w5 ⟨rfl,hb5⟩
       have I3:=hbw.trans (hb5.mono (by have:=hbw.size;have:=HN.out;omega))
       clear hidx3 Nk o1 o2 f3 hb5
       by_cases hm:may sh o=true
       ·have HM:=Lib.hid hm
        simp only[hm]
        clear hm
        go_wp2_with fail
        go_roundw
        case rel=>exact⟨j+1,by omega,by go_num,I3,Lib.hid (kC HO.out H6.out HM.out)⟩
        case measure=>simp[intOf]<;>omega
       ·simp only[Bool.not_eq_true] at hm
        simp only[hm]
        go_wp2_with fail
        go_ret
        exact⟨⟨1,rfl,fun h=>absurd h (by decide)⟩,by rw[HN.out];exact I3⟩
      ·have dj:decide ((j:Int)<(l.length:Int))=false:=decide_eq_false (by omega)
       obtain rfl:j=l.length:=by omega
       clear Ef Eg
       go_wp2_with fail
       go_roundw
       case rel=>exact⟨k2+1,by omega,by go_num,hbw,Lib.hid (fun v l2 hv h2=>by
        by_cases e:v=k2
        ·subst e;rw[HL.out] at h2;injection h2 with h2;subst h2;have:=H6.out;rwa [List.take_length] at this
        ·exact H5.out v l2 (by omega) h2)⟩
       case measure=>simp[intOf]<;>omega
    ·have dk2:decide ((k2:Int)<(k:Int))=false:=decide_eq_false (by omega)
     obtain rfl:k2=k:=by omega
     go_wp2_with fail
     go_ret
     refine⟨⟨0,rfl,fun _=>⟨⟨?_,?_,⟨?_,?_⟩⟩,?_,pX (fun v l hl=>H4.out v l ?_ hl),pX (fun v l hl=>H5.out v l ?_ hl)⟩⟩,by rw[HN.out];exact hbw2⟩
     ·have:=H1.out;omega
     ·have:=H2.out;omega
     ·have:=H2.out;simp only;omega
     ·have:=H2.out;simp only;omega
     ·have:=H3.out;omega
     ·rw[←hs.len];exact(List.getElem?_eq_some_iff.1 hl).1
     ·rw[←hs.len];exact(List.getElem?_eq_some_iff.1 hl).1
theorem vC (sh th nd tr:Int) (A:Option Addr) (n cap B:Nat) (ops:List (List Opn)) (w:World) (hs:dF w B A n ops) (hB:B≤w.heap.size):
  Calls Tryz.prog 23 #[.agg #[.int .i64 sh,.int .i64 th,.int .i64 nd,.int .i64 tr,.slice A n cap]] w (I2 sh th nd tr n ops w):=by
 have hb1:Below w.heap.size w (w.alloc (.cells #[.int .i64 sh,.int .i64 th,.int .i64 nd,.int .i64 tr,.slice A n cap] 24)):=(Below.refl _ _).alloc (Nat.le_refl _) _
 have x1:=a8.new w 24 #[.int .i64 sh,.int .i64 th,.int .i64 nd,.int .i64 tr,.slice A n cap]
 have hc1:=x1.cells
 go_enter Tryz.func23,Tryz.ntmps23
 go_wp2_with fail
 refine(vB sh th nd tr A n cap B ops _ (hs.below (hb1.mono hB)) (Nat.le_trans hB hb1.size)).mono ?_
 rintro r w2 ⟨⟨z,rfl,hz⟩,hb2⟩
 go_wp2_with fail
 go_ret
 exact⟨⟨z,rfl,hz⟩,hb1.trans (hb2.mono hb1.size)⟩
theorem xB (sh th nd tr:Int) (A:Option Addr) (n cap:Nat) (w:World):
  Calls Tryz.prog 25 #[.agg #[.int .i64 sh,.int .i64 th,.int .i64 nd,.int .i64 tr,.slice A n cap]] w fun e w'=>e= .returned (.agg #[.int .i64 sh,.int .i64 th,.int .i64 nd,.int .i64 tr])∧Below w.heap.size w w':=by
 have hb1:Below w.heap.size w (w.alloc (.cells #[.int .i64 sh,.int .i64 th,.int .i64 nd,.int .i64 tr,.slice A n cap] 24)):=(Below.refl _ _).alloc (Nat.le_refl _) _
 have x1:=a8.new w 24 #[.int .i64 sh,.int .i64 th,.int .i64 nd,.int .i64 tr,.slice A n cap]
 have hc1:=x1.cells
 go_enter Tryz.func25,Tryz.ntmps25
 go_wp2_with fail
 refine bodyPost_ret (v:= .agg #[.int .i64 sh,.int .i64 th,.int .i64 nd,.int .i64 tr]) (by simp[results,Tryz.results25,go_sem]) rfl ⟨rfl,((Below.refl _ _).alloc (Nat.le_refl _) _).alloc (by simp) _⟩
structure Gh (sh th nd tr:Int) (n:Nat) (ops:List (List Opn)) (m:Nat) (w:World) (e:Ending) (w':World):Prop where
 ex:∃ r,e= .returned (.bool r)∧(r=false→m≤60∧yk sh th nd tr n ops)
 bel:Below w.heap.size w w'
theorem zu (sh th nd tr:Int) (A:Option Addr) (n cap B:Nat) (ops:List (List Opn)) (AL:Option Addr) (m cl:Nat) (w:World) (hs:dF w B A n ops) (hB:B≤w.heap.size):
  Calls Tryz.prog 7 #[.agg #[.int .i64 sh,.int .i64 th,.int .i64 nd,.int .i64 tr,.slice A n cap],.slice AL m cl] w (Gh sh th nd tr n ops m w):=by
 have hb1:Below w.heap.size w (w.alloc (.cells #[.int .i64 sh,.int .i64 th,.int .i64 nd,.int .i64 tr,.slice A n cap] 24)):=(Below.refl _ _).alloc (Nat.le_refl _) _
 have x1:=a8.new w 24 #[.int .i64 sh,.int .i64 th,.int .i64 nd,.int .i64 tr,.slice A n cap]
 have hc1:=x1.cells
 go_enter Tryz.func7,Tryz.ntmps7
 go_wp2_with fail
 refine(vA sh th nd tr A n cap B ops AL m cl _ (hs.below (hb1.mono hB)) (Nat.le_trans hB hb1.size)).mono ?_
 rintro r w2 ⟨⟨g,rfl,hg⟩,hb2⟩
 have x2:=x1.step hb2
 have hb:=hb1.trans (hb2.mono hb1.size)
 clear hc1
 have hc2:=x2.cells
 have HG:=Lib.hid hg
 clear hg
 cases g with
 | true=>
  go_wp2_with fail
  go_ret
  exact⟨⟨true,rfl,fun h=>by cases h⟩,hb⟩
 | false=>
  go_wp2_with fail
  refine(vC sh th nd tr A n cap B ops _ (hs.below (hb.mono hB)) (Nat.le_trans hB hb.size)).mono ?_
  rintro r w3 ⟨⟨z,rfl,hz⟩,hb3⟩
  have HZ:=Lib.hid hz
  clear hz
  go_wp2_with fail
  go_ret
  exact⟨⟨z !=0,rfl,fun h=>⟨by have:=HG.out;simpa using this,HZ.out (by simpa using h)⟩⟩,hb.trans (hb3.mono hb.size)⟩
structure K5 (L:Ly) (s0:aZ) (w:World) (e:Ending) (w':World):Prop where
 ex:∃ b E C',e= .returned (.pointer (some ⟨b,0,none⟩))∧E.M.L=L∧w.heap.size≤E.B∧(∀ g,g<w.heap.size→C' g=0)∧dx w' C' b E s0
 bel:Below w.heap.size w w'
theorem zv (sh th nd tr:Int) (A:Option Addr) (n cap B:Nat) (ops:List (List Opn)) (w:World) (hs:dF w B A n ops) (hB:B≤w.heap.size) (hj:yk sh th nd tr n ops):
  Calls Tryz.prog 8 #[.agg #[.int .i64 sh,.int .i64 th,.int .i64 nd,.int .i64 tr,.slice A n cap]] w (K5 ⟨th,nd⟩ (.init sh tr ops) w):=by
 have HN:=fun W (h:dF W B A n ops) (hBW:B≤W.heap.size)=>pS sh tr ⟨th,nd⟩ hj.cfg A n cap B ops W h hBW hj.xw hj.n hj.may (fun _=>0) (fun _ _=>rfl)
 simp only at HN
 have hb1:Below w.heap.size w (w.alloc (.cells #[.int .i64 sh,.int .i64 th,.int .i64 nd,.int .i64 tr,.slice A n cap] 24)):=(Below.refl _ _).alloc (Nat.le_refl _) _
 have x1:=a8.new w 24 #[.int .i64 sh,.int .i64 th,.int .i64 nd,.int .i64 tr,.slice A n cap]
 have hc1:=x1.cells
 have hlt:=x1.lt
 have hs1:=hs.below (hb1.mono hB)
 have hB1:=Nat.le_trans hB hb1.size
 go_enter Tryz.func8,Tryz.ntmps8
 go_wp2_with fail
 generalize(w.alloc (.cells #[.int .i64 sh,.int .i64 th,.int .i64 nd,.int .i64 tr,.slice A n cap] 24))=w1 at *
 obtain⟨xb,hxb⟩:∃ xb,w.heap.size=xb:=⟨_,rfl⟩
 have HX:=Lib.hid hxb
 simp only[hxb] at x1 hc1 hlt⊢
 clear hxb hc1
 have q1:=Later.cells (B:=w1.heap.size) x1 hlt
 refine az (fun w'=>∃ q:Later w1.heap.size w1,w'=q.val) 9 [([0,2,3],1),([],4)] [5,6,7,8] [9] (by kernel_rfl) (by kernel_rfl) (Later.bI (Below.refl _ _).drew) ?_
 refine ai ?_
 simp only[au,List.map_cons,List.map_nil,List.getD_cons_zero,List.getD_cons_succ]
 repeat(go_big_quiet_step (fail))
 refine wpQuiet_nil ?_
 refine bm rfl (fun K' hK'=> ?_)
 go_simp
 ((with_reducible refine(xB sh th nd tr A n cap _).mono ?_);rintro e w2 ⟨rfl,hb2⟩)
 have hbx:Below w1.heap.size w1 w2:=(Below.refl _ _).drew.trans hb2
 refine hK' _ _ (Later.bI (hbx)) ?_
 clear hK' K'
 refine ai ?_
 simp only[au,List.map_nil]
 repeat(go_big_quiet_step (fail))
 refine wpQuiet_nil ?_
 refine bm rfl (fun K' hK'=> ?_)
 go_simp
 ((with_reducible refine(HN _ (hs1.below (hbx.mono hB1)) (Nat.le_trans hB1 hbx.size)).mono ?_);rintro e w3 ⟨⟨b,E,C3,rfl,Eh,hEB,hag,hE⟩,hb3⟩)
 have hby:=hbx.trans (hb3.mono hbx.size)
 refine hK' _ _ (Later.bI (hby)) ?_
 clear hK' K'
 refine af ?_
 try simp only[au,List.map_cons,List.map_nil,List.getD_cons_zero,List.getD_cons_succ]
 repeat(go_big_quiet_step (fail))
 refine wpQuiet_nil ?_
 refine ae _ _ _ (by kernel_rfl) ?_
 try simp only[au,List.map_cons,List.map_nil,List.getD_cons_zero,List.getD_cons_succ]
 clear q1
 go_wp2_with fail
 refine NoPanic.normal ?_
 go_wp2_with fail
 go_ret
 refine⟨⟨b,E,C3,rfl,Eh,?_,fun g hg=>hag g ?_,hE⟩,?_⟩
 ·rw[hEB];exact Nat.le_trans hb1.size hbx.size
 ·exact Nat.lt_of_lt_of_le hg (Nat.le_trans hb1.size hbx.size)
 ·exact hb1.trans (hby.mono hb1.size)
structure Ob where
 b:Nat
 t:TypeId
 cs:Array Value
structure I4 (w0:World) (b:Nat) (E:fP) (e:aZ) (K:List Ob) (wr:World):Prop where
 bel:Below w0.heap.size w0 wr
 ok:dG E.M e
 B:w0.heap.size≤E.B
 old:∀ x∈K,w0.heap.size≤x.b∧some x.t∉yb
 ex:∃ C,dx wr C b E e∧(∀ g,g<w0.heap.size→C g=0)∧∀ x∈K,SB wr C 0 x.b x.t x.cs
section
variable {w0 w w':World} {b:Nat} {E:fP} {e:aZ} {K:List Ob}
theorem I4.blk (h:I4 w0 b E e K w) {x:Ob} (hx:x∈K):a8 w x.b x.t x.cs:=by
 obtain⟨C,-,-,h3⟩:=h.ex
 exact(h3 x hx).blk
end
structure xC where
 th:Int
 times:Int
def xC.cells (p:xC):List Value:=[.int .i64 p.th,.int .i64 p.times]
theorem xC.db (p:xC):p.cells.length=2:=rfl
theorem I5:(Tryz.prog.info? 39).map (·.size)=some 2:=by kernel_rfl
theorem Gi {B n:Nat} {A:Option Addr} {ps:List xC} (h:Sl w B 2 A n (ps.flatMap xC.cells)) {k:Nat} {p:xC} (hk:k<n) (he:ps[k]? =some p):
  w.cell? ⟨bt A,bY A+k*2,none⟩=some (.int .i64 p.th)∧w.cell? ⟨bt A,bY A+k*2+1,none⟩=some (.int .i64 p.times):=by
 have key:∀ i,i<2→w.cell? ⟨bt A,bY A+k*2+i,none⟩=p.cells[i]? :=fun i hi=>by
  rw[h.at_ hk hi,fS xC.cells 2 xC.db ps k i p he hi]
 exact⟨key 0 (by omega),key 1 (by omega)⟩
theorem Ei (w:World):(zeroValue 3).run Tryz.prog w= .ok (.int .i64 0) w:=by kernel_rfl
theorem Ce (a:Int) (h: -9223372036854775808≤a∧a<9223372036854775808):(Lit.int .i64 a).wf=true:=by
 simp only[Lit.wf]
 rw[decide_eq_true (show IntKind.i64.min≤a by rw[show IntKind.i64.min= -9223372036854775808 by decide];omega),decide_eq_true (show a≤IntKind.i64.max by rw[show IntKind.i64.max=9223372036854775807 by decide];omega)]
 rfl
def CntAt (w:World) (b:Nat) (l:List Int):Prop:=
 l.Nodup∧∃ D:DataW Unit,w.ownsMap Tryz.prog 3 (plainElem Tryz.prog 3) b l.length D∧Go.Maps.Tidy D∧(∀ x:Int,Go.Maps.has D (.int .i64 x)=l.contains x)∧Go.Maps.size D=l.length
theorem CntAt.made (w:World):CntAt (w.alloc (.map #[] 0)) w.heap.size []:=by
 refine⟨List.nodup_nil,.map [],World.ownsMap_made w _ _ _,Go.Maps.tidy_empty,fun x=> ?_,rfl⟩
 simp[Go.Maps.has_eq]
theorem CntAt.kept {l:List Int} (h:CntAt w b l) (hb:∀ o,w.heap[b]? =some o→w'.heap[b]? =some o):CntAt w' b l:=by
 obtain⟨h0,D,⟨es,clock,h4,h5⟩,h2⟩:=h
 exact⟨h0,D,⟨es,clock,hb _ h4,h5⟩,h2⟩
theorem CntAt.lt {l:List Int} (h:CntAt w b l):b<w.heap.size:=by
 obtain⟨-,D,h1,-⟩:=h;exact h1.lt
theorem CntAt.obj {l:List Int} (h:CntAt w b l):∃ es clock,w.heap[b]? =some (.map es clock):=by
 obtain⟨-,D,⟨es,clock,h4,-⟩,-⟩:=h;exact⟨es,clock,h4⟩
theorem CntAt.step {l:List Int} (h:CntAt w b l) (hb:Below w.heap.size w w'):CntAt w' b l:=h.kept fun _ ho=>(hb.block b h.lt).trans ho
theorem CntAt.look {l:List Int} (h:CntAt w b l) (x:Int) (key:Value) (hkey:keyOf Tryz.prog 3 key=some (.int .i64 x)):
  ∃ a:Int,(-9223372036854775808≤a∧a<9223372036854775808)∧(Instr.lookup 37 (.map (some b)) key false).run Tryz.prog w= .ok (.int .i64 a) w:=by
 obtain⟨-,D,h1,-⟩:=h
 obtain⟨v,ps,hrun,hv⟩:=h1.lookup j6 Tryz.underlying37 (Ei w) (plainElem_int Tryz.underlying3 (Ce 0 (by omega))) hkey
 obtain⟨a,rfl,-,hw⟩:=plainElem_int_inv Tryz.underlying3 hv
 refine⟨a,?_,hrun⟩
 simp only[Lit.wf] at hw
 have:=hw
 simp only[Bool.and_eq_true,decide_eq_true_eq] at this
 rw[show IntKind.i64.min= -9223372036854775808 by decide,show IntKind.i64.max=9223372036854775807 by decide] at this
 omega
theorem CntAt.put {l:List Int} (h:CntAt w b l) (hn:l.length<1000) (x:Int) (key:Value) (hkey:keyOf Tryz.prog 3 key=some (.int .i64 x)) (a:Int) (ha: -9223372036854775808≤a∧a<9223372036854775808):
  ∃ w',(Instr.mapUpdate 37 (.map (some b)) key (.int .i64 a)).run Tryz.prog w= .ok () w'∧CntAt w' b (if l.contains x then l else x::l)∧w.grownBy w' (some b):=by
 obtain⟨h0,D,h1,h2,h3,h4⟩:=h
 obtain⟨w',hrun,h5,h6⟩:=h1.update j6 Tryz.underlying37 (by unfold maxLen;omega) hkey (plainElem_int Tryz.underlying3 (Ce a ha))
 have hk:WideAt.IsKeyLit (Lit.int .i64 x):=by simp[WideAt.IsKeyLit]
 have hsz:=Go.Maps.size_put (k:=Lit.int .i64 x) h2 (.lit (.int .i64 a):DataW Unit)
 have hhas:∀ y:Int,Go.Maps.has (D.put (Lit.int .i64 x) (.lit (.int .i64 a))) (.int .i64 y)=(if l.contains x then l else x::l).contains y:=fun y=>by
  by_cases e:y=x
  ·subst e
   rw[Go.Maps.has_put_same h2.isMap hk]
   split
   ·rename_i hc;exact hc.symm
   ·simp
  ·rw[Go.Maps.has_put_other (fun e2=>e (by injection e2)),h3 y]
   split
   ·rfl
   ·simp[e]
 have hlen:Go.Maps.size (D.put (Lit.int .i64 x) (.lit (.int .i64 a):DataW Unit))=(if l.contains x then l else x::l).length:=by
  rw[hsz,h3 x,h4]
  split<;>simp
 refine⟨w',hrun,⟨?_,_,?_,h2.put hk _,hhas,hlen⟩,h6⟩
 ·split
  ·exact h0
  ·rename_i hc
   exact List.nodup_cons.2 ⟨fun hm=>hc (by simpa using hm),h0⟩
 ·obtain⟨es,clock,g1,g2,g3,g4⟩:=h5
  have:es.size=(if l.contains x then l else x::l).length:=by
   rw[←hlen,g4]
   exact(Go.length_read es).symm
  exact⟨es,clock,g1,g2,by omega,g4⟩
theorem CntAt.len {l:List Int} (h:CntAt w b l):(Builtin.len_ #[37] 3 #[.map (some b)]).run Tryz.prog w= .ok (.int .i64 (l.length:Int)) w:=by
 obtain⟨-,D,h1,-,-,h4⟩:=h
 rw[h1.len Tryz.underlying37 3,h4]
theorem nt:∀ (n:Nat) (l:List Int),l.Nodup→(∀ x,x∈l→1≤x∧x≤n)→(∀ x:Int,1≤x→x≤n→x∈l)→l.length=n
 | 0,l,_,h,_=>by
  cases l with
  | nil=>rfl
  | cons x r=>have:=h x (List.mem_cons_self ..);omega
 | n+1,l,hd,h1,h2=>by
  have hm:((n+1:Nat):Int)∈l:=h2 _ (by omega) (by omega)
  have hp:=nt n (l.erase ((n+1:Nat):Int)) (hd.erase _) (fun x hx=>by
   have h3:=h1 x (List.mem_of_mem_erase hx)
   have h4:=(List.Nodup.mem_erase_iff hd).1 hx
   have:=h4.1
   omega) (fun x h3 h4=>(List.Nodup.mem_erase_iff hd).2 ⟨by omega,h2 x h3 (by omega)⟩)
  rw[List.length_erase_of_mem hm] at hp
  have:0<l.length:=List.length_pos_of_mem hm
  omega
abbrev Zs:Type:=Nat→Option (Nat×List Int)
structure jv (w0:World) (b:Nat) (E:fP) (e:aZ) (K:List Ob) (Z:Zs) (wr:World):Prop where
 bel:Below w0.heap.size w0 wr
 ok:dG E.M e
 B:w0.heap.size≤E.B
 old:∀ x∈K,w0.heap.size≤x.b∧some x.t∉yb
 inj:∀ u v z z',Z u=some z→Z v=some z'→z.1=z'.1→u=v
 tq:∀ u z,Z u=some z→w0.heap.size≤z.1
 ex:∃ C,dx wr C b E e∧(∀ g,g<w0.heap.size→C g=0)∧(∀ x∈K,SB wr C 0 x.b x.t x.cs)∧∀ u z,Z u=some z→C z.1=0∧CntAt wr z.1 z.2
theorem I4.z {E:fP} {e:aZ} {K:List Ob} (h:I4 w0 b E e K w):jv w0 b E e K (fun _=>none) w:=by
 obtain⟨C,h1,h2,h3⟩:=h.ex
 exact⟨h.bel,h.ok,h.B,h.old,fun u v z z' h=>(by cases h),fun u z h=>(by cases h),C,h1,h2,h3,fun u z h=>(by cases h)⟩
section
variable {w0 w w':World} {b:Nat} {E:fP} {e:aZ} {K:List Ob} {Z:Zs}
theorem jv.step (h:jv w0 b E e K Z w) (hb:Below w.heap.size w w'):jv w0 b E e K Z w':=by
 obtain⟨C,h1,h2,h3,h4⟩:=h.ex
 exact⟨h.bel.trans (hb.mono h.bel.size),h.ok,h.B,h.old,h.inj,h.tq,C,h1.step hb,h2,fun x hx=>(h3 x hx).step hb,fun u z hz=>⟨(h4 u z hz).1,(h4 u z hz).2.step hb⟩⟩
theorem jv.blk (h:jv w0 b E e K Z w) {x:Ob} (hx:x∈K):a8 w x.b x.t x.cs:=by
 obtain⟨C,-,-,h3,-⟩:=h.ex
 exact(h3 x hx).blk
theorem jv.map (h:jv w0 b E e K Z w) {u:Nat} {z:Nat×List Int} (hz:Z u=some z):CntAt w z.1 z.2:=by
 obtain⟨C,-,-,-,h4⟩:=h.ex
 exact(h4 u z hz).2
theorem jv.alloc (h:jv w0 b E e K Z w) (t:TypeId) (cs:Array Value) (ht:some t∉yb):jv w0 b E e (⟨w.heap.size,t,cs⟩::K) Z (w.alloc (.cells cs t)):=by
 obtain⟨C,h1,h2,h3,h4⟩:=h.ex
 have hb:Below w.heap.size w (w.alloc (.cells cs t)):=(Below.refl _ _).alloc (Nat.le_refl _) _
 have ag:aB w.heap.size C (a9 C w.heap.size 0):=aB.a9 _ _ _
 refine⟨h.bel.trans (hb.mono h.bel.size),h.ok,h.B,fun x hx=> ?_,h.inj,h.tq,a9 C w.heap.size 0,(h1.nv ag).step hb,fun g hg=> ?_,fun x hx=> ?_,fun u z hz=>⟨?_,(h4 u z hz).2.step hb⟩⟩
 ·rcases List.mem_cons.1 hx with rfl | hx
  ·exact⟨h.bel.size,ht⟩
  ·exact h.old x hx
 ·rw[cu _ _ (Nat.lt_of_lt_of_le hg h.bel.size)];exact h2 g hg
 ·rcases List.mem_cons.1 hx with rfl | hx
  ·exact SB.new w _ (aO _ _ (Nat.le_refl _)) t cs rfl
  ·exact((h3 x hx).nv ag).step hb
 ·rw[cu _ _ (h4 u z hz).2.lt];exact(h4 u z hz).1
theorem jv.sub {K':List Ob} (h:jv w0 b E e K Z w) (hm:∀ x,x∈K'→x∈K):jv w0 b E e K' Z w:=by
 obtain⟨C,h1,h2,h3,h4⟩:=h.ex
 exact⟨h.bel,h.ok,h.B,fun y hy=>h.old y (hm y hy),h.inj,h.tq,C,h1,h2,fun y hy=>h3 y (hm y hy),h4⟩
theorem jv.I6 {Z':Zs} (h:jv w0 b E e K Z w) (hm:∀ u z,Z' u=some z→Z u=some z):jv w0 b E e K Z' w:=by
 obtain⟨C,h1,h2,h3,h4⟩:=h.ex
 exact⟨h.bel,h.ok,h.B,h.old,fun u v z z' a b=>h.inj u v z z' (hm _ _ a) (hm _ _ b),fun u z a=>h.tq u z (hm _ _ a),C,h1,h2,h3,fun u z a=>h4 u z (hm _ _ a)⟩
theorem jv.set {x:Ob} (h:jv w0 b E e (x::K) Z w) (hK:∀ y∈K,y.b≠x.b) (i:Nat) (v:Value):jv w0 b E e (⟨x.b,x.t,x.cs.setIfInBounds i v⟩::K) Z (w.setCell ⟨x.b,i,none⟩ v):=by
 obtain⟨C,h1,h2,h3,h4⟩:=h.ex
 have hs:=h3 x (List.mem_cons_self ..)
 have ho:=h.old x (List.mem_cons_self ..)
 refine⟨h.bel.setCell ho.1 v,h.ok,h.B,fun y hy=> ?_,h.inj,h.tq,C,h1.out (hs.qh i v) (aB.refl _ _) (fun t ht hm=> ?_),h2,fun y hy=> ?_,fun u z hz=>⟨(h4 u z hz).1,(h4 u z hz).2.kept fun o ho=> ?_⟩⟩
 ·rcases List.mem_cons.1 hy with rfl | hy
  ·exact ho
  ·exact h.old y (List.mem_cons_of_mem _ hy)
 ·have:t=some x.t:=by simpa using hm
  exact ho.2 (this ▸ ht)
 ·rcases List.mem_cons.1 hy with rfl | hy
  ·exact hs.ao i v
  ·exact(h3 y (List.mem_cons_of_mem _ hy)).far (hK y hy) v
 ·obtain⟨es,clock,hm⟩:=(h4 u z hz).2.obj
  rw[hm] at ho
  injection ho with ho
  subst ho
  exact(hs.qh i v).keep _ _ hm (.inr (by simp[Eo]))
theorem jv.bI (h:jv w0 b E e K Z w) (u:Nat):jv w0 b E e K (fun v=>if v=u then some (w.heap.size,[]) else Z v) (w.alloc (.map #[] 0)):=by
 obtain⟨C,h1,h2,h3,h4⟩:=h.ex
 have hb:Below w.heap.size w (w.alloc (.map #[] 0)):=(Below.refl _ _).alloc (Nat.le_refl _) _
 have ag:aB w.heap.size C (a9 C w.heap.size 0):=aB.a9 _ _ _
 have hlt:∀ v z,Z v=some z→z.1<w.heap.size:=fun v z hz=>(h4 v z hz).2.lt
 refine⟨h.bel.trans (hb.mono h.bel.size),h.ok,h.B,h.old,fun v v' z z' a a' e=> ?_,fun v z a=> ?_,a9 C w.heap.size 0,(h1.nv ag).step hb,fun g hg=> ?_,fun x hx=>((h3 x hx).nv ag).step hb,fun v z hz=> ?_⟩
 ·split at a<;>split at a'
  ·omega
  ·injection a with a
   subst a
   have:=hlt _ _ a'
   simp only at e
   omega
  ·injection a' with a'
   subst a'
   have:=hlt _ _ a
   simp only at e
   omega
  ·exact h.inj _ _ _ _ a a' e
 ·split at a
  ·injection a with a
   subst a
   exact h.bel.size
  ·exact h.tq v z a
 ·rw[cu _ _ (Nat.lt_of_lt_of_le hg h.bel.size)];exact h2 g hg
 ·split at hz
  ·injection hz with hz
   subst hz
   exact⟨aO _ _ (Nat.le_refl _),CntAt.made w⟩
  ·exact⟨by rw[cu _ _ (hlt _ _ hz)];exact(h4 v z hz).1,(h4 v z hz).2.step hb⟩
theorem jv.put (h:jv w0 b E e K Z w) {u:Nat} {z:Nat×List Int} (hz:Z u=some z) {l:List Int} (hg:w.grownBy w' (some z.1)) (hl:CntAt w' z.1 l):jv w0 b E e K (fun v=>if v=u then some (z.1,l) else Z v) w':=by
 obtain⟨C,h1,h2,h3,h4⟩:=h.ex
 obtain⟨es,clock,hm⟩:=(h4 u z hz).2.obj
 have hne:∀ g o,w.heap[g]? =some o→o≠.map es clock→g≠z.1:=fun g o ho hn e=>by subst e;rw[hm] at ho;injection ho with ho;exact hn ho.symm
 have hf:Fr C (fun x=>x=0) [none] w w':=⟨hg.os,hg.tape,hg.output,hg.size,fun g o ho hk=>by
  have K6:g≠z.1:=fun e=>by
   subst e
   rcases hk with hk | hk
   ·exact hk (h4 u z hz).1
   ·rw[hm] at ho
    injection ho with ho
    subst ho
    exact hk (by simp[Eo])
  exact(hg.block g (lt_size ho) (by simpa using K6)).trans ho⟩
 have hz0:=h.tq u z hz
 refine⟨⟨hg.os.trans h.bel.os,hg.tape.trans h.bel.tape,hg.output.trans h.bel.output,Nat.le_trans h.bel.size hg.size,fun g hgl=> ?_⟩,h.ok,h.B,h.old,fun v v' y y' a a' e=> ?_,fun v y a=> ?_,C,h1.out hf (aB.refl _ _) (by decide),h2,fun x hx=>(h3 x hx).fr hf (.inr (by simp)),fun v y a=> ?_⟩
 ·rw[hg.block g (Nat.lt_of_lt_of_le hgl h.bel.size) (by simp;omega)]
  exact h.bel.block g hgl
 ·split at a<;>split at a'
  ·omega
  ·rename_i e1 e2
   injection a with a
   subst a e1
   exact h.inj _ _ _ _ hz a' e
  ·rename_i e1 e2
   injection a' with a'
   subst a' e2
   exact h.inj _ _ _ _ a hz e
  ·exact h.inj _ _ _ _ a a' e
 ·split at a
  ·injection a with a
   subst a
   exact hz0
  ·exact h.tq v y a
 ·split at a
  ·injection a with a
   subst a
   exact⟨(h4 u z hz).1,hl⟩
  ·rename_i e1
   have h5:=h4 v y a
   refine⟨h5.1,h5.2.kept fun o ho=> ?_⟩
   exact(hg.block _ (lt_size ho) (by simp only[ne_eq,Option.some.injEq];exact fun e=>e1 (h.inj _ _ _ _ a hz e))).trans ho
theorem Ej (h:jv w0 b E e K Z w) (u:Int):Calls Tryz.prog 14 #[.pointer (some ⟨b,0,none⟩),.int .i64 u] w fun r w'=>r= .returned (.bool (e.can E.M u))∧jv w0 b E (e.pick E.M u) K Z w':=by
 obtain⟨C,h1,h2,h3,h4⟩:=h.ex
 refine(ni h1 u (by have:=h.ok.len;omega) (fun hc=>h.ok.fine hc)).mono ?_
 intro r w' hp
 obtain⟨C',ag,h5⟩:=hp.own
 have hsz:=h.bel.size
 refine⟨hp.ret,h.bel.trans (hp.fr.low h2 h.B hsz),(h.ok.pick u).1,h.B,h.old,h.inj,h.tq,C',h5,fun g hg=>(ag g (by omega)).trans (h2 g hg),fun x hx=>(h3 x hx).fe hp.fr ag (h.old x hx).2,fun v z hz=> ?_⟩
 have h6:=h4 v z hz
 refine⟨(ag _ h6.2.lt).trans h6.1,h6.2.kept fun o ho=>hp.fr.keep _ _ ho h6.1 (.inl ?_)⟩
 obtain⟨es,clock,hm⟩:=h6.2.obj
 rw[hm] at ho
 injection ho with ho
 subst ho
 simp[Eo,yb]
theorem Ek (h:jv w0 b E e K Z w) (a:Int):Calls Tryz.prog 11 #[.pointer (some ⟨b,0,none⟩),.int .i64 a] w fun r w'=>r= .returned (.int .u64 (ld E.M e.m a))∧w=w':=by
 obtain⟨C,h1,-⟩:=h.ex
 exact vh h1 a
theorem zw (h:jv w0 b E e K Z w):Calls Tryz.prog 9 #[.pointer (some ⟨b,0,none⟩)] w fun r w'=>r= .returned E.M.L.val∧Below w.heap.size w w':=by
 obtain⟨C,h1,-⟩:=h.ex
 exact qW h1
theorem yl (h:jv w0 b E e K Z w) (u:Int):Calls Tryz.prog 13 #[.pointer (some ⟨b,0,none⟩),.int .i64 u] w fun r w'=>r= .returned (.int .i64 (e.dY E.M.L u))∧Below w.heap.size w w':=by
 obtain⟨C,h1,-⟩:=h.ex
 exact nj h1 u
theorem El (h:jv w0 b E e K Z w):Calls Tryz.prog 15 #[.pointer (some ⟨b,0,none⟩)] w fun r w'=>∃ b',r= .returned (.pointer (some ⟨b',0,none⟩))∧HAt w' w.heap.size b' e.hist∧Below w.heap.size w w':=by
 obtain⟨C,h1,-⟩:=h.ex
 exact nm h1 (by have:=h.ok.len;omega)
end
end Go.Proofs.YtbcnnhlpilmmbaaGreat
