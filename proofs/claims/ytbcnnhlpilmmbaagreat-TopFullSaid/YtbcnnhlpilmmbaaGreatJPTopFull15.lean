/- Texts that are wanted for PTopFull.
   Conditions: none. -/
import Derived.Test.YtbcnnhlpilmmbaaGreatJPTopFull14
set_option maxRecDepth 100000
set_option maxHeartbeats 6400000
namespace Go.Proofs.YtbcnnhlpilmmbaaGreat
open Go Go.RowKit
def exAct (b Mb:Nat) (word:Int) (v5 v6 v8 v13:Value):Act:={ tmps:= #[.pointer (some ⟨b,0,none⟩),.pointer (some ⟨Mb,0,none⟩),undef,undef,.bool false,v5,v6,.pointer (some ⟨b,0,none⟩),v8,.pointer (some ⟨b,0,none⟩),.pointer (some ⟨b,0,none⟩),.pointer (some ⟨b,12,none⟩),.int .u64 word,v13,undef,undef,undef,undef,undef,undef,undef,undef,undef,undef,undef,undef,undef,undef,undef,undef,undef,undef,undef,undef,undef,undef,undef,undef,undef,undef,undef,undef,undef,undef,undef,undef,undef,undef,undef,undef,undef,undef,undef,undef,undef,undef,undef,undef,undef,undef,undef,undef,undef,undef,undef,undef,undef,undef,undef,undef,undef,undef,undef,undef,undef,undef,undef,undef,undef,undef,undef,undef,undef,undef,undef,undef,undef,undef,undef,undef,undef,undef,undef,undef,undef,undef,undef,undef,undef,undef,undef,undef,undef,undef,undef,undef,undef,undef,undef,undef,undef,undef,undef,undef,undef,undef,undef,undef,undef,undef,undef,undef,undef,undef,undef,undef,undef,undef,undef,undef,undef,undef,undef,undef,undef,undef,undef],defers:=[] }
def H8 (c:Nat) (d5 d6:Bool):Array Bool:= #[true,decide (1≤c),true,true,true,true,decide (2≤c),d5,d6,false,false]
structure Ki (b Mb:Nat) (word:Int) (Kj Kk:Value) (w:World) (r:Nat) (L:Array Bool) (a:Act) (W:World) (c:Nat) (d5 d6:Bool) (g5 g6:Nat) (v5 v6 v8 v13:Value):Prop where
 hc:c≤2
 hr:r+c+d5.toNat+d6.toNat=4
 hL:L=H8 c d5 d6
 ha:a=exAct b Mb word v5 v6 v8 v13
 bel:Below w.heap.size w W
 e8:v8=if c=0 then undef else Kj
 e13:v13=if c=2 then Kk else undef
 e5:v5=if d5 then .pointer (some ⟨g5,0,none⟩) else undef
 e6:v6=if d6 then .pointer (some ⟨g6,0,none⟩) else undef
 b5:d5=true→w.heap.size≤g5∧a8 W g5 161 #[.int .i64 0,.int .i64 0,.int .i64 0,.int .i64 0,.bool false,.int .i64 0,.int .i64 0]
 b6:d6=true→w.heap.size≤g6∧a8 W g6 198 #[.int .i64 0,.int .i64 0,.bool false,.int .i64 0,.int .i64 0]
theorem bQ {R R':List Nat} {F:Nat→Prop} (h:R=R') (hne:R'≠[]) (hF:∀ i∈R',F i):R≠[]∧∀ i∈R,F i:=by subst h;exact⟨hne,hF⟩
theorem Ki.step {b Mb:Nat} {word:Int} {Kj Kk:Value} {w:World} {r:Nat} {L:Array Bool} {a:Act} {W W':World} {c:Nat} {d5 d6:Bool} {g5 g6:Nat} {v5 v6 v8 v13:Value} (h:Ki b Mb word Kj Kk w r L a W c d5 d6 g5 g6 v5 v6 v8 v13) (k:Below W.heap.size W W'):
  Below w.heap.size w W'∧(d5=true→w.heap.size≤g5∧a8 W' g5 161 #[.int .i64 0,.int .i64 0,.int .i64 0,.int .i64 0,.bool false,.int .i64 0,.int .i64 0])∧(d6=true→w.heap.size≤g6∧a8 W' g6 198 #[.int .i64 0,.int .i64 0,.bool false,.int .i64 0,.int .i64 0]):=
 ⟨h.bel.trans (k.mono h.bel.size),fun e=>⟨(h.b5 e).1,(h.b5 e).2.step k⟩,fun e=>⟨(h.b6 e).1,(h.b6 e).2.step k⟩⟩
variable {w:World} {C:Nat→Nat} {c b:Nat} {M:ML} {m:Mm}
theorem yR {x:bL} (hm:aj w C M m) (h:fN w C c b M.L x) (hat:0≤x.at_∧x.at_≤9):Calls Tryz.prog 146 #[.pointer (some ⟨b,0,none⟩),.pointer (some ⟨M.b,0,none⟩)] w (Dr C c b M (bu M m x) w):=by
 obtain⟨popped,gave,u,⟨sh,kind,key⟩,aM,at_,found,word⟩:=x
 obtain⟨sb,hfd,hwd,hu,hpop⟩:=h
 simp only at sb hfd hwd hu hpop hat
 have HD:=fun (W:World) (k:SB W C c b 224 #[.int .i64 M.L.th,.int .i64 M.L.nd,.int .i64 popped,.int .i64 gave,.int .i64 u,.int .i64 sh,.int .i64 kind,.int .i64 key,.bool true,.int .i64 aM,.int .i64 at_,.int .u64 found,.int .u64 word])=>cg (x:=(⟨popped,gave,u,⟨sh,kind,key⟩,aM,at_,found,word⟩:bL)) ⟨k,hfd,hwd,hu,hpop⟩
 have HG:=fun W=>aT word W hwd
 have hdf:=cX found
 have hwf:=bG word
 obtain⟨D,hD⟩:∃ D,getD' found=D:=⟨_,rfl⟩
 obtain⟨W0,hW0⟩:∃ W0,aE word=W0:=⟨_,rfl⟩
 simp only[hD] at HD hdf
 rw[hW0] at HG hwf
 have zH:=Lib.hid hD
 have FC:=Lib.hid hW0
 clear hD hW0
 obtain⟨da,dd,dv,dn,dm,ds,dl⟩:=D
 obtain⟨k1,k2,k3,k4,k5⟩:=W0
 simp only[Wd.val,Ds.vals] at HD HG
 go_enter Tryz.func146,Tryz.ntmps146
 have hc:=sb.blk.cells
 go_wp2_with fail
 clear hc
 refine kA (fun w'=>∃ q:Such (S1 b #[.int .i64 M.L.th,.int .i64 M.L.nd,.int .i64 popped,.int .i64 gave,.int .i64 u,.int .i64 sh,.int .i64 kind,.int .i64 key,.bool true,.int .i64 aM,.int .i64 at_,.int .u64 found,.int .u64 word]),w'=q.val) 9 [0,2,3,4,5] 4 [9,10] (fun r L a W=>∃ c d5 d6 g5 g6 v5 v6 v8 v13,Ki b M.b word (.agg #[.int .i64 da,.int .i64 dd,.int .i64 dv,.int .i64 dn,.bool dm,.int .i64 ds,.int .i64 dl]) (.agg #[.int .i64 k1,.int .i64 k2,.bool k3,.int .i64 k4,.int .i64 k5]) w r L a W c d5 d6 g5 g6 v5 v6 v8 v13) (by kernel_rfl) (by kernel_rfl) (Such.bI (S:=S1 b #[.int .i64 M.L.th,.int .i64 M.L.nd,.int .i64 popped,.int .i64 gave,.int .i64 u,.int .i64 sh,.int .i64 kind,.int .i64 key,.bool true,.int .i64 aM,.int .i64 at_,.int .u64 found,.int .u64 word]) sb.drew.blk.cells) ?_ ?_ ?_
 ·have q1:∀ (q:Such (S1 b #[.int .i64 M.L.th,.int .i64 M.L.nd,.int .i64 popped,.int .i64 gave,.int .i64 u,.int .i64 sh,.int .i64 kind,.int .i64 key,.bool true,.int .i64 aM,.int .i64 at_,.int .u64 found,.int .u64 word])) (i:Nat),q.val.cell? ⟨b,i,none⟩=(#[.int .i64 M.L.th,.int .i64 M.L.nd,.int .i64 popped,.int .i64 gave,.int .i64 u,.int .i64 sh,.int .i64 kind,.int .i64 key,.bool true,.int .i64 aM,.int .i64 at_,.int .u64 found,.int .u64 word])[i]? :=oq
  haveI qi:Nonempty (Such (S1 b #[.int .i64 M.L.th,.int .i64 M.L.nd,.int .i64 popped,.int .i64 gave,.int .i64 u,.int .i64 sh,.int .i64 kind,.int .i64 key,.bool true,.int .i64 aM,.int .i64 at_,.int .u64 found,.int .u64 word])):=Such.q8 sb.blk.cells
  simp only[au,List.map_cons,List.map_nil,List.getD_cons_zero,List.getD_cons_succ]
  repeat(go_big_quiet_step (fail))
  refine wpQuiet_nil ?_
  exact⟨0,false,false,0,0,undef,undef,undef,undef,by omega,rfl,by kernel_rfl,rfl,(Below.refl _ _).drew,rfl,rfl,rfl,rfl,(fun h=>by cases h),(fun h=>by cases h)⟩
 ·rintro r L a W ⟨c0,d5,d6,g5,g6,v5,v6,v8,v13,hI⟩
  have Kl:=hI.hc
  have Cu:=hI.hr
  have hsW:=sb.step hI.bel
  obtain⟨-,-,rfl,rfl,-,rfl,rfl,rfl,rfl,-,-⟩:=id hI
  rcases(by omega:c0=0∨c0=1∨c0=2) with rfl | rfl | rfl<;>cases d5<;>cases d6<;>simp only[Bool.toNat_true,Bool.toNat_false] at Cu
  ·have hr:r=3:=by omega
   subst hr
   refine bQ (R':=[1,7,8]) (by kernel_rfl) (by decide) ?_
   intro i hi
   simp only[List.mem_cons,List.not_mem_nil,or_false] at hi
   rcases hi with rfl | rfl | rfl
   ·refine bo rfl (fun K' hK'=> ?_)
    simp only[exAct,if_true]
    go_simp
    refine(HD _ hsW).mono ?_
    rintro e W2 ⟨rfl,hb⟩
    obtain⟨j1,j2,j3⟩:=hI.step hb
    exact hK' _ _ ⟨Such.bI (S:=S1 b #[.int .i64 M.L.th,.int .i64 M.L.nd,.int .i64 popped,.int .i64 gave,.int .i64 u,.int .i64 sh,.int .i64 kind,.int .i64 key,.bool true,.int .i64 aM,.int .i64 at_,.int .u64 found,.int .u64 word]) (hsW.step hb).blk.cells,1,false,false,g5,g6,_,_,_,_,by omega,by rfl,by kernel_rfl,by kernel_rfl,j1,rfl,rfl,rfl,rfl,j2,j3⟩
   ·refine bo rfl (fun K' hK'=> ?_)
    simp only[exAct,if_true]
    go_simp
    obtain⟨j1,j2,j3⟩:=hI.step ((Below.refl _ _).alloc (Nat.le_refl _) (.cells #[.int .i64 0,.int .i64 0,.int .i64 0,.int .i64 0,.bool false,.int .i64 0,.int .i64 0] 161))
    exact hK' _ _ ⟨Such.bI (S:=S1 b #[.int .i64 M.L.th,.int .i64 M.L.nd,.int .i64 popped,.int .i64 gave,.int .i64 u,.int .i64 sh,.int .i64 kind,.int .i64 key,.bool true,.int .i64 aM,.int .i64 at_,.int .u64 found,.int .u64 word]) (hsW.alloc _).blk.cells,0,true,false,W.heap.size,g6,_,_,_,_,by omega,by rfl,by kernel_rfl,by kernel_rfl,j1,rfl,rfl,rfl,rfl,fun _=>⟨hI.bel.size,a8.new W _ _⟩,j3⟩
   ·refine bo rfl (fun K' hK'=> ?_)
    simp only[exAct,if_true]
    go_simp
    obtain⟨j1,j2,j3⟩:=hI.step ((Below.refl _ _).alloc (Nat.le_refl _) (.cells #[.int .i64 0,.int .i64 0,.bool false,.int .i64 0,.int .i64 0] 198))
    exact hK' _ _ ⟨Such.bI (S:=S1 b #[.int .i64 M.L.th,.int .i64 M.L.nd,.int .i64 popped,.int .i64 gave,.int .i64 u,.int .i64 sh,.int .i64 kind,.int .i64 key,.bool true,.int .i64 aM,.int .i64 at_,.int .u64 found,.int .u64 word]) (hsW.alloc _).blk.cells,0,false,true,g5,W.heap.size,_,_,_,_,by omega,by rfl,by kernel_rfl,by kernel_rfl,j1,rfl,rfl,rfl,rfl,j2,fun _=>⟨hI.bel.size,a8.new W _ _⟩⟩
  ·have hr:r=2:=by omega
   subst hr
   refine bQ (R':=[1,7]) (by kernel_rfl) (by decide) ?_
   intro i hi
   simp only[List.mem_cons,List.not_mem_nil,or_false] at hi
   rcases hi with rfl | rfl
   ·refine bo rfl (fun K' hK'=> ?_)
    simp only[exAct,if_true]
    go_simp
    refine(HD _ hsW).mono ?_
    rintro e W2 ⟨rfl,hb⟩
    obtain⟨j1,j2,j3⟩:=hI.step hb
    exact hK' _ _ ⟨Such.bI (S:=S1 b #[.int .i64 M.L.th,.int .i64 M.L.nd,.int .i64 popped,.int .i64 gave,.int .i64 u,.int .i64 sh,.int .i64 kind,.int .i64 key,.bool true,.int .i64 aM,.int .i64 at_,.int .u64 found,.int .u64 word]) (hsW.step hb).blk.cells,1,false,true,g5,g6,_,_,_,_,by omega,by rfl,by kernel_rfl,by kernel_rfl,j1,rfl,rfl,rfl,rfl,j2,j3⟩
   ·refine bo rfl (fun K' hK'=> ?_)
    simp only[exAct,if_true]
    go_simp
    obtain⟨j1,j2,j3⟩:=hI.step ((Below.refl _ _).alloc (Nat.le_refl _) (.cells #[.int .i64 0,.int .i64 0,.int .i64 0,.int .i64 0,.bool false,.int .i64 0,.int .i64 0] 161))
    exact hK' _ _ ⟨Such.bI (S:=S1 b #[.int .i64 M.L.th,.int .i64 M.L.nd,.int .i64 popped,.int .i64 gave,.int .i64 u,.int .i64 sh,.int .i64 kind,.int .i64 key,.bool true,.int .i64 aM,.int .i64 at_,.int .u64 found,.int .u64 word]) (hsW.alloc _).blk.cells,0,true,true,W.heap.size,g6,_,_,_,_,by omega,by rfl,by kernel_rfl,by kernel_rfl,j1,rfl,rfl,rfl,rfl,fun _=>⟨hI.bel.size,a8.new W _ _⟩,j3⟩
  ·have hr:r=2:=by omega
   subst hr
   refine bQ (R':=[1,8]) (by kernel_rfl) (by decide) ?_
   intro i hi
   simp only[List.mem_cons,List.not_mem_nil,or_false] at hi
   rcases hi with rfl | rfl
   ·refine bo rfl (fun K' hK'=> ?_)
    simp only[exAct,if_true]
    go_simp
    refine(HD _ hsW).mono ?_
    rintro e W2 ⟨rfl,hb⟩
    obtain⟨j1,j2,j3⟩:=hI.step hb
    exact hK' _ _ ⟨Such.bI (S:=S1 b #[.int .i64 M.L.th,.int .i64 M.L.nd,.int .i64 popped,.int .i64 gave,.int .i64 u,.int .i64 sh,.int .i64 kind,.int .i64 key,.bool true,.int .i64 aM,.int .i64 at_,.int .u64 found,.int .u64 word]) (hsW.step hb).blk.cells,1,true,false,g5,g6,_,_,_,_,by omega,by rfl,by kernel_rfl,by kernel_rfl,j1,rfl,rfl,rfl,rfl,j2,j3⟩
   ·refine bo rfl (fun K' hK'=> ?_)
    simp only[exAct,if_true]
    go_simp
    obtain⟨j1,j2,j3⟩:=hI.step ((Below.refl _ _).alloc (Nat.le_refl _) (.cells #[.int .i64 0,.int .i64 0,.bool false,.int .i64 0,.int .i64 0] 198))
    exact hK' _ _ ⟨Such.bI (S:=S1 b #[.int .i64 M.L.th,.int .i64 M.L.nd,.int .i64 popped,.int .i64 gave,.int .i64 u,.int .i64 sh,.int .i64 kind,.int .i64 key,.bool true,.int .i64 aM,.int .i64 at_,.int .u64 found,.int .u64 word]) (hsW.alloc _).blk.cells,0,true,true,g5,W.heap.size,_,_,_,_,by omega,by rfl,by kernel_rfl,by kernel_rfl,j1,rfl,rfl,rfl,rfl,j2,fun _=>⟨hI.bel.size,a8.new W _ _⟩⟩
  ·have hr:r=1:=by omega
   subst hr
   refine bQ (R':=[1]) (by kernel_rfl) (by decide) ?_
   intro i hi
   simp only[List.mem_cons,List.not_mem_nil,or_false] at hi
   rcases hi with rfl
   ·refine bo rfl (fun K' hK'=> ?_)
    simp only[exAct,if_true]
    go_simp
    refine(HD _ hsW).mono ?_
    rintro e W2 ⟨rfl,hb⟩
    obtain⟨j1,j2,j3⟩:=hI.step hb
    exact hK' _ _ ⟨Such.bI (S:=S1 b #[.int .i64 M.L.th,.int .i64 M.L.nd,.int .i64 popped,.int .i64 gave,.int .i64 u,.int .i64 sh,.int .i64 kind,.int .i64 key,.bool true,.int .i64 aM,.int .i64 at_,.int .u64 found,.int .u64 word]) (hsW.step hb).blk.cells,1,true,true,g5,g6,_,_,_,_,by omega,by rfl,by kernel_rfl,by kernel_rfl,j1,rfl,rfl,rfl,rfl,j2,j3⟩
  ·have hr:r=2:=by omega
   subst hr
   refine bQ (R':=[6,7,8]) (by kernel_rfl) (by decide) ?_
   intro i hi
   simp only[List.mem_cons,List.not_mem_nil,or_false] at hi
   rcases hi with rfl | rfl | rfl
   ·refine bo rfl (fun K' hK'=> ?_)
    simp only[exAct]
    go_simp
    refine(HG _).mono ?_
    rintro e W2 ⟨rfl,hb⟩
    obtain⟨j1,j2,j3⟩:=hI.step hb
    exact hK' _ _ ⟨Such.bI (S:=S1 b #[.int .i64 M.L.th,.int .i64 M.L.nd,.int .i64 popped,.int .i64 gave,.int .i64 u,.int .i64 sh,.int .i64 kind,.int .i64 key,.bool true,.int .i64 aM,.int .i64 at_,.int .u64 found,.int .u64 word]) (hsW.step hb).blk.cells,2,false,false,g5,g6,_,_,_,_,by omega,by rfl,by kernel_rfl,by kernel_rfl,j1,rfl,rfl,rfl,rfl,j2,j3⟩
   ·refine bo rfl (fun K' hK'=> ?_)
    simp only[exAct]
    go_simp
    obtain⟨j1,j2,j3⟩:=hI.step ((Below.refl _ _).alloc (Nat.le_refl _) (.cells #[.int .i64 0,.int .i64 0,.int .i64 0,.int .i64 0,.bool false,.int .i64 0,.int .i64 0] 161))
    exact hK' _ _ ⟨Such.bI (S:=S1 b #[.int .i64 M.L.th,.int .i64 M.L.nd,.int .i64 popped,.int .i64 gave,.int .i64 u,.int .i64 sh,.int .i64 kind,.int .i64 key,.bool true,.int .i64 aM,.int .i64 at_,.int .u64 found,.int .u64 word]) (hsW.alloc _).blk.cells,1,true,false,W.heap.size,g6,_,_,_,_,by omega,by rfl,by kernel_rfl,by kernel_rfl,j1,rfl,rfl,rfl,rfl,fun _=>⟨hI.bel.size,a8.new W _ _⟩,j3⟩
   ·refine bo rfl (fun K' hK'=> ?_)
    simp only[exAct]
    go_simp
    obtain⟨j1,j2,j3⟩:=hI.step ((Below.refl _ _).alloc (Nat.le_refl _) (.cells #[.int .i64 0,.int .i64 0,.bool false,.int .i64 0,.int .i64 0] 198))
    exact hK' _ _ ⟨Such.bI (S:=S1 b #[.int .i64 M.L.th,.int .i64 M.L.nd,.int .i64 popped,.int .i64 gave,.int .i64 u,.int .i64 sh,.int .i64 kind,.int .i64 key,.bool true,.int .i64 aM,.int .i64 at_,.int .u64 found,.int .u64 word]) (hsW.alloc _).blk.cells,1,false,true,g5,W.heap.size,_,_,_,_,by omega,by rfl,by kernel_rfl,by kernel_rfl,j1,rfl,rfl,rfl,rfl,j2,fun _=>⟨hI.bel.size,a8.new W _ _⟩⟩
  ·have hr:r=1:=by omega
   subst hr
   refine bQ (R':=[6,7]) (by kernel_rfl) (by decide) ?_
   intro i hi
   simp only[List.mem_cons,List.not_mem_nil,or_false] at hi
   rcases hi with rfl | rfl
   ·refine bo rfl (fun K' hK'=> ?_)
    simp only[exAct,if_true]
    go_simp
    refine(HG _).mono ?_
    rintro e W2 ⟨rfl,hb⟩
    obtain⟨j1,j2,j3⟩:=hI.step hb
    exact hK' _ _ ⟨Such.bI (S:=S1 b #[.int .i64 M.L.th,.int .i64 M.L.nd,.int .i64 popped,.int .i64 gave,.int .i64 u,.int .i64 sh,.int .i64 kind,.int .i64 key,.bool true,.int .i64 aM,.int .i64 at_,.int .u64 found,.int .u64 word]) (hsW.step hb).blk.cells,2,false,true,g5,g6,_,_,_,_,by omega,by rfl,by kernel_rfl,by kernel_rfl,j1,rfl,rfl,rfl,rfl,j2,j3⟩
   ·refine bo rfl (fun K' hK'=> ?_)
    simp only[exAct,if_true]
    go_simp
    obtain⟨j1,j2,j3⟩:=hI.step ((Below.refl _ _).alloc (Nat.le_refl _) (.cells #[.int .i64 0,.int .i64 0,.int .i64 0,.int .i64 0,.bool false,.int .i64 0,.int .i64 0] 161))
    exact hK' _ _ ⟨Such.bI (S:=S1 b #[.int .i64 M.L.th,.int .i64 M.L.nd,.int .i64 popped,.int .i64 gave,.int .i64 u,.int .i64 sh,.int .i64 kind,.int .i64 key,.bool true,.int .i64 aM,.int .i64 at_,.int .u64 found,.int .u64 word]) (hsW.alloc _).blk.cells,1,true,true,W.heap.size,g6,_,_,_,_,by omega,by rfl,by kernel_rfl,by kernel_rfl,j1,rfl,rfl,rfl,rfl,fun _=>⟨hI.bel.size,a8.new W _ _⟩,j3⟩
  ·have hr:r=1:=by omega
   subst hr
   refine bQ (R':=[6,8]) (by kernel_rfl) (by decide) ?_
   intro i hi
   simp only[List.mem_cons,List.not_mem_nil,or_false] at hi
   rcases hi with rfl | rfl
   ·refine bo rfl (fun K' hK'=> ?_)
    simp only[exAct,if_true]
    go_simp
    refine(HG _).mono ?_
    rintro e W2 ⟨rfl,hb⟩
    obtain⟨j1,j2,j3⟩:=hI.step hb
    exact hK' _ _ ⟨Such.bI (S:=S1 b #[.int .i64 M.L.th,.int .i64 M.L.nd,.int .i64 popped,.int .i64 gave,.int .i64 u,.int .i64 sh,.int .i64 kind,.int .i64 key,.bool true,.int .i64 aM,.int .i64 at_,.int .u64 found,.int .u64 word]) (hsW.step hb).blk.cells,2,true,false,g5,g6,_,_,_,_,by omega,by rfl,by kernel_rfl,by kernel_rfl,j1,rfl,rfl,rfl,rfl,j2,j3⟩
   ·refine bo rfl (fun K' hK'=> ?_)
    simp only[exAct,if_true]
    go_simp
    obtain⟨j1,j2,j3⟩:=hI.step ((Below.refl _ _).alloc (Nat.le_refl _) (.cells #[.int .i64 0,.int .i64 0,.bool false,.int .i64 0,.int .i64 0] 198))
    exact hK' _ _ ⟨Such.bI (S:=S1 b #[.int .i64 M.L.th,.int .i64 M.L.nd,.int .i64 popped,.int .i64 gave,.int .i64 u,.int .i64 sh,.int .i64 kind,.int .i64 key,.bool true,.int .i64 aM,.int .i64 at_,.int .u64 found,.int .u64 word]) (hsW.alloc _).blk.cells,1,true,true,g5,W.heap.size,_,_,_,_,by omega,by rfl,by kernel_rfl,by kernel_rfl,j1,rfl,rfl,rfl,rfl,j2,fun _=>⟨hI.bel.size,a8.new W _ _⟩⟩
  ·have hr:r=0:=by omega
   subst hr
   refine bQ (R':=[6]) (by kernel_rfl) (by decide) ?_
   intro i hi
   simp only[List.mem_cons,List.not_mem_nil,or_false] at hi
   rcases hi with rfl
   ·refine bo rfl (fun K' hK'=> ?_)
    simp only[exAct,if_true]
    go_simp
    refine(HG _).mono ?_
    rintro e W2 ⟨rfl,hb⟩
    obtain⟨j1,j2,j3⟩:=hI.step hb
    exact hK' _ _ ⟨Such.bI (S:=S1 b #[.int .i64 M.L.th,.int .i64 M.L.nd,.int .i64 popped,.int .i64 gave,.int .i64 u,.int .i64 sh,.int .i64 kind,.int .i64 key,.bool true,.int .i64 aM,.int .i64 at_,.int .u64 found,.int .u64 word]) (hsW.step hb).blk.cells,2,true,true,g5,g6,_,_,_,_,by omega,by rfl,by kernel_rfl,by kernel_rfl,j1,rfl,rfl,rfl,rfl,j2,j3⟩
  ·have hr:r=1:=by omega
   subst hr
   refine bQ (R':=[7,8]) (by kernel_rfl) (by decide) ?_
   intro i hi
   simp only[List.mem_cons,List.not_mem_nil,or_false] at hi
   rcases hi with rfl | rfl
   ·refine bo rfl (fun K' hK'=> ?_)
    simp only[exAct,if_true]
    go_simp
    obtain⟨j1,j2,j3⟩:=hI.step ((Below.refl _ _).alloc (Nat.le_refl _) (.cells #[.int .i64 0,.int .i64 0,.int .i64 0,.int .i64 0,.bool false,.int .i64 0,.int .i64 0] 161))
    exact hK' _ _ ⟨Such.bI (S:=S1 b #[.int .i64 M.L.th,.int .i64 M.L.nd,.int .i64 popped,.int .i64 gave,.int .i64 u,.int .i64 sh,.int .i64 kind,.int .i64 key,.bool true,.int .i64 aM,.int .i64 at_,.int .u64 found,.int .u64 word]) (hsW.alloc _).blk.cells,2,true,false,W.heap.size,g6,_,_,_,_,by omega,by rfl,by kernel_rfl,by kernel_rfl,j1,rfl,rfl,rfl,rfl,fun _=>⟨hI.bel.size,a8.new W _ _⟩,j3⟩
   ·refine bo rfl (fun K' hK'=> ?_)
    simp only[exAct,if_true]
    go_simp
    obtain⟨j1,j2,j3⟩:=hI.step ((Below.refl _ _).alloc (Nat.le_refl _) (.cells #[.int .i64 0,.int .i64 0,.bool false,.int .i64 0,.int .i64 0] 198))
    exact hK' _ _ ⟨Such.bI (S:=S1 b #[.int .i64 M.L.th,.int .i64 M.L.nd,.int .i64 popped,.int .i64 gave,.int .i64 u,.int .i64 sh,.int .i64 kind,.int .i64 key,.bool true,.int .i64 aM,.int .i64 at_,.int .u64 found,.int .u64 word]) (hsW.alloc _).blk.cells,2,false,true,g5,W.heap.size,_,_,_,_,by omega,by rfl,by kernel_rfl,by kernel_rfl,j1,rfl,rfl,rfl,rfl,j2,fun _=>⟨hI.bel.size,a8.new W _ _⟩⟩
  ·have hr:r=0:=by omega
   subst hr
   refine bQ (R':=[7]) (by kernel_rfl) (by decide) ?_
   intro i hi
   simp only[List.mem_cons,List.not_mem_nil,or_false] at hi
   rcases hi with rfl
   ·refine bo rfl (fun K' hK'=> ?_)
    simp only[exAct,if_true]
    go_simp
    obtain⟨j1,j2,j3⟩:=hI.step ((Below.refl _ _).alloc (Nat.le_refl _) (.cells #[.int .i64 0,.int .i64 0,.int .i64 0,.int .i64 0,.bool false,.int .i64 0,.int .i64 0] 161))
    exact hK' _ _ ⟨Such.bI (S:=S1 b #[.int .i64 M.L.th,.int .i64 M.L.nd,.int .i64 popped,.int .i64 gave,.int .i64 u,.int .i64 sh,.int .i64 kind,.int .i64 key,.bool true,.int .i64 aM,.int .i64 at_,.int .u64 found,.int .u64 word]) (hsW.alloc _).blk.cells,2,true,true,W.heap.size,g6,_,_,_,_,by omega,by rfl,by kernel_rfl,by kernel_rfl,j1,rfl,rfl,rfl,rfl,fun _=>⟨hI.bel.size,a8.new W _ _⟩,j3⟩
  ·have hr:r=0:=by omega
   subst hr
   refine bQ (R':=[8]) (by kernel_rfl) (by decide) ?_
   intro i hi
   simp only[List.mem_cons,List.not_mem_nil,or_false] at hi
   rcases hi with rfl
   ·refine bo rfl (fun K' hK'=> ?_)
    simp only[exAct,if_true]
    go_simp
    obtain⟨j1,j2,j3⟩:=hI.step ((Below.refl _ _).alloc (Nat.le_refl _) (.cells #[.int .i64 0,.int .i64 0,.bool false,.int .i64 0,.int .i64 0] 198))
    exact hK' _ _ ⟨Such.bI (S:=S1 b #[.int .i64 M.L.th,.int .i64 M.L.nd,.int .i64 popped,.int .i64 gave,.int .i64 u,.int .i64 sh,.int .i64 kind,.int .i64 key,.bool true,.int .i64 aM,.int .i64 at_,.int .u64 found,.int .u64 word]) (hsW.alloc _).blk.cells,2,true,true,g5,W.heap.size,_,_,_,_,by omega,by rfl,by kernel_rfl,by kernel_rfl,j1,rfl,rfl,rfl,rfl,j2,fun _=>⟨hI.bel.size,a8.new W _ _⟩⟩
  ·omega
 ·rintro L a W ⟨c0,d5,d6,g5,g6,v5,v6,v8,v13,hI⟩
  have Cu:=hI.hr
  have Kl:=hI.hc
  have h5:d5=true:=by cases d5<;>cases d6<;>simp only[Bool.toNat_true,Bool.toNat_false] at Cu<;>first | rfl | omega
  have h6:d6=true:=by cases d5<;>cases d6<;>simp only[Bool.toNat_true,Bool.toNat_false] at Cu<;>first | rfl | omega
  subst h5 h6
  have h2:c0=2:=by simp only[Bool.toNat_true] at Cu;omega
  subst h2
  obtain⟨hg5,hk5⟩:=hI.b5 rfl
  obtain⟨Nx,hk6⟩:=hI.b6 rfl
  have hbW:=hI.bel
  obtain⟨-,-,rfl,rfl,-,rfl,rfl,rfl,rfl,-,-⟩:=hI
  refine⟨by kernel_rfl,?_⟩
  refine ae _ _ _ (by kernel_rfl) ?_
  try simp only[au,List.map_cons,List.map_nil,List.getD_cons_zero,List.getD_cons_succ]
  simp only[exAct,if_true]
  replace sb:=sb.step hbW
  replace hm:=hm.step hbW
  have fr:Fr C (Kc c) vE w W:=Fr.of_below hbW _ _ _
  have ag:=aB.refl w.heap.size C
  have nd:SB W C (C g5) g5 161 #[.int .i64 0,.int .i64 0,.int .i64 0,.int .i64 0,.bool false,.int .i64 0,.int .i64 0]:=SB.mk hk5 rfl
  have nw:SB W C (C g6) g6 198 #[.int .i64 0,.int .i64 0,.bool false,.int .i64 0,.int .i64 0]:=SB.mk hk6 rfl
  clear hk5 hk6 hbW
  have z1:=And.intro sb (And.intro nd nw)
  have hR:=ko
  revert nw;revert hm;revert sb;revert fr;refine gO nd [(0,.int .i64 da),(1,.int .i64 dd),(2,.int .i64 dv),(3,.int .i64 dn),(4,.bool dm),(5,.int .i64 ds),(6,.int .i64 dl)] ?_;clear nd;rintro w1 e1 fr nd sb hm nw
  simp only[stx,sx] at e1 nd
  have z2:=And.intro sb (And.intro nd nw)
  revert fr sb hm nd;refine gO nw [(0,.int .i64 k1),(1,.int .i64 k2),(2,.bool k3),(3,.int .i64 k4),(4,.int .i64 k5)] ?_;clear nw;rintro w2 e2 fr nw sb hm nd
  simp only[stx,sx] at e2 nw
  go_wp2_with fail
  clear z1 e1 hR z2 e2
  refine NoPanic.normal ?_
  rcases(by omega:at_=0∨at_=1∨at_=2∨at_=3∨at_=4∨at_=5∨at_=6∨at_=7∨at_=8∨at_=9) with rfl | rfl | rfl | rfl | rfl | rfl | rfl | rfl | rfl | rfl
  ·skip
   have HST:Hid (bu M m (⟨popped,gave,u,⟨sh,kind,key⟩,aM,0,found,word⟩:bL)=(((⟨popped,gave,u,⟨sh,kind,key⟩,aM,0,found,word⟩:bL).load (ld M m (M.L.desc u))).1,m,((⟨popped,gave,u,⟨sh,kind,key⟩,aM,0,found,word⟩:bL).load (ld M m (M.L.desc u))).2)):=Lib.hid rfl
   go_wp2_with fail
   refine(yQ hm (x:=(⟨popped,gave,u,⟨sh,kind,key⟩,aM,0,found,word⟩:bL)) ⟨sb,hfd,hwd,hu,hpop⟩).mono ?_
   rintro e w9 ⟨rfl,jC,own,hf⟩
   replace fr:=fr.trans hf ag
   replace hm:=jC
   clear jC
   go_wp2_with fail
   go_ret
   exact⟨by rw[HST.out];rfl,by rw[HST.out];exact hm,by rw[HST.out];exact own,fr⟩
  ·skip
   have HST:Hid (bu M m (⟨popped,gave,u,⟨sh,kind,key⟩,aM,1,found,word⟩:bL)=(false,m,(⟨popped,gave,u,⟨sh,kind,key⟩,aM,1,found,word⟩:bL).look (ld M m (getD' found).addr) 2 3 4)):=Lib.hid rfl
   go_wp2_with fail
   refine(rG hm (x:=(⟨popped,gave,u,⟨sh,kind,key⟩,aM,1,found,word⟩:bL)) ⟨sb,hfd,hwd,hu,hpop⟩ 2 3 4).mono ?_
   rintro e w9 ⟨rfl,jC,own,hf⟩
   replace fr:=fr.trans hf ag
   replace hm:=jC
   clear jC
   go_wp2_with fail
   go_ret
   exact⟨by rw[HST.out];rfl,by rw[HST.out];exact hm,by rw[HST.out];exact own,fr⟩
  ·skip
   have ja:=fun W=>(show Calls Tryz.prog 166 #[.agg #[.int .i64 k1,.int .i64 k2,.bool k3,.int .i64 k4,.int .i64 k5],.int .i64 u,.int .i64 dn,.bool dm] W _ from lu (⟨k1,k2,k3,k4,k5⟩:Wd) u dn dm W (by omega))
   obtain⟨W2,hW2⟩:∃ W2,(⟨k1,k2,k3,k4,k5⟩:Wd).claimed u dn dm=W2:=⟨_,rfl⟩
   simp only[hW2] at ja
   have zI:=fun W (h1:aj W C M m) (h2:SB W C c b 224 #[.int .i64 M.L.th,.int .i64 M.L.nd,.int .i64 popped,.int .i64 gave,.int .i64 u,.int .i64 sh,.int .i64 kind,.int .i64 key,.bool true,.int .i64 aM,.int .i64 2,.int .u64 found,.int .u64 word])=>uF h1 (x:=(⟨popped,gave,u,⟨sh,kind,key⟩,aM,2,found,word⟩:bL)) ⟨h2,hfd,hwd,hu,hpop⟩ W2
   simp only[zH.out] at zI
   have sK:=fun W=>(show Calls Tryz.prog 183 #[.agg #[.int .i64 sh,.int .i64 kind,.int .i64 key]] W _ from mx ⟨sh,kind,key⟩ W)
   obtain⟨q,hq⟩:∃ q,bS M m dd word=q:=⟨_,rfl⟩
   obtain⟨pp,hpp⟩:∃ pp,(⟨sh,kind,key⟩:bq).pops=pp:=⟨_,rfl⟩
   simp only[hq] at zI
   simp only[hpp] at sK
   have HST:Hid (bu M m (⟨popped,gave,u,⟨sh,kind,key⟩,aM,2,found,word⟩:bL)=(true,cas M m dd word (eU W2),if q && pp then ⟨k2,gave,u,⟨sh,kind,key⟩,aM,2,found,word⟩ else (⟨popped,gave,u,⟨sh,kind,key⟩,aM,2,found,word⟩:bL))):=Lib.hid (by rw[←hq,←hpp,←hW2];unfold bu;simp only[zH.out,FC.out];first | rfl | simp)
   have hnx:=hwf.next
   simp only at hnx
   clear hW2 hq hpp
   cases q
   ·skip
    go_wp2_with fail
    revert nw;revert nd;revert hm;revert sb;revert fr;refine bD ?_;intro fr sb hm nd nw
    obtain⟨q1,q2,q3,qi⟩:=cF sb nd nw
    refine aY sb nd nw 18 [([0,1,2,3,4,5,6,7,8,9,10],11),([],12)] [13,14,15,16,17] [18,19] (by kernel_rfl) (by kernel_rfl) ?_
    refine ai ?_;simp only[ox];repeat(go_big_quiet_step (fail))
    refine di rfl (fun K' hK'=> ?_);go_simp
    revert fr sb hm nd nw;with_reducible refine bk (ja _) ?_;rintro e w3 rfl fr sb hm nd nw
    refine hK' _ _ (jz sb nd nw) ?_;clear hK' K'
    refine ai ?_;simp only[ox];repeat(go_big_quiet_step (fail))
    refine di rfl (fun K' hK'=> ?_);go_simp
    ((with_reducible refine(zI _ hm sb).mono ?_);clear hm;rintro e w4 ⟨rfl,hm,own,hf⟩)
    revert fr nd nw;refine dS hf (fun _ h=>h) (fun _ h=>h) ag ?_;clear hf;intro fr nd nw
    replace sb:SB w4 C c b 224 #[.int .i64 M.L.th,.int .i64 M.L.nd,.int .i64 popped,.int .i64 gave,.int .i64 u,.int .i64 sh,.int .i64 kind,.int .i64 key,.bool true,.int .i64 aM,.int .i64 2,.int .u64 found,.int .u64 word]:=own.blk
    clear own
    refine hK' _ _ (jz sb nd nw) ?_;clear hK' K'
    refine af ?_;try simp only
    repeat(go_big_quiet_step (fail))
    refine wpQuiet_nil ?_
    refine ae _ _ _ (by kernel_rfl) ?_;try simp only[ox]
    clear qi q1 q2 q3
    go_wp2_with fail
    refine NoPanic.normal ?_
    go_wp2_with fail
    go_ret
    exact⟨by rw[HST.out];rfl,by rw[HST.out];exact hm,by rw[HST.out];exact⟨sb,hfd,hwd,hu,hpop⟩,fr⟩
   ·skip
    go_wp2_with fail
    revert nw;revert nd;revert hm;revert sb;revert fr;refine bD ?_;intro fr sb hm nd nw
    obtain⟨q1,q2,q3,qi⟩:=cF sb nd nw
    refine aY sb nd nw 18 [([0,1,2,3,4,5,6,7,8,9,10],11),([],12)] [13,14,15,16,17] [18,19] (by kernel_rfl) (by kernel_rfl) ?_
    refine ai ?_;simp only[ox];repeat(go_big_quiet_step (fail))
    refine di rfl (fun K' hK'=> ?_);go_simp
    revert fr sb hm nd nw;with_reducible refine bk (ja _) ?_;rintro e w3 rfl fr sb hm nd nw
    refine hK' _ _ (jz sb nd nw) ?_;clear hK' K'
    refine ai ?_;simp only[ox];repeat(go_big_quiet_step (fail))
    refine di rfl (fun K' hK'=> ?_);go_simp
    ((with_reducible refine(zI _ hm sb).mono ?_);clear hm;rintro e w4 ⟨rfl,hm,own,hf⟩)
    revert fr nd nw;refine dS hf (fun _ h=>h) (fun _ h=>h) ag ?_;clear hf;intro fr nd nw
    replace sb:SB w4 C c b 224 #[.int .i64 M.L.th,.int .i64 M.L.nd,.int .i64 popped,.int .i64 gave,.int .i64 u,.int .i64 sh,.int .i64 kind,.int .i64 key,.bool true,.int .i64 aM,.int .i64 2,.int .u64 found,.int .u64 word]:=own.blk
    clear own
    refine hK' _ _ (jz sb nd nw) ?_;clear hK' K'
    refine af ?_;try simp only
    repeat(go_big_quiet_step (fail))
    refine wpQuiet_nil ?_
    refine ae _ _ _ (by kernel_rfl) ?_;try simp only[ox]
    clear qi q1 q2 q3
    go_wp2_with fail
    revert nw;revert nd;revert hm;revert sb;revert fr;refine bk (sK _) ?_;rintro e w5 rfl fr sb hm nd nw
    cases pp
    ·skip
     go_wp2_with fail
     refine NoPanic.normal ?_
     go_wp2_with fail
     go_ret
     exact⟨by rw[HST.out];rfl,by rw[HST.out];exact hm,by rw[HST.out];exact⟨sb,hfd,hwd,hu,hpop⟩,fr⟩
    ·skip
     have z3:=And.intro sb (And.intro nd nw)
     revert nw;revert nd;revert hm;revert fr;refine st1 sb 2 (.int .i64 k2) (aL c) ag ?_;clear sb;rintro w6 e1 fr sb hm nd nw
     simp only[sx] at sb
     go_wp2_with fail
     refine NoPanic.normal ?_
     go_wp2_with fail
     clear z3 e1
     go_ret
     exact⟨by rw[HST.out];rfl,by rw[HST.out];exact hm,by rw[HST.out];exact⟨sb,hfd,hwd,hu,(show 0≤k2∧k2≤1000 by omega)⟩,fr⟩
  ·skip
   have ja:=fun W=>(fun W=>(show Calls Tryz.prog 160 #[.agg #[.int .i64 da,.int .i64 dd,.int .i64 dv,.int .i64 dn,.bool dm,.int .i64 ds,.int .i64 dl],.int .i64 3] W _ from mq (⟨da,dd,dv,dn,dm,ds,dl⟩:Ds) 3 W)) W
   obtain⟨D2,hD2⟩:∃ D2,(⟨da,dd,dv,dn,dm,ds,dl⟩:Ds).with_ 3=D2:=⟨_,rfl⟩
   simp only[hD2] at ja
   have HST:Hid (bu M m (⟨popped,gave,u,⟨sh,kind,key⟩,aM,3,found,word⟩:bL)=(true,cas M m (M.L.desc u) found (cL ((⟨da,dd,dv,dn,dm,ds,dl⟩:Ds).with_ 3)),(⟨popped,gave,u,⟨sh,kind,key⟩,aM,3,found,word⟩:bL))):=Lib.hid (by unfold bu;simp only[zH.out,FC.out];first | rfl | simp)
   rw[hD2] at HST
   clear hD2
   go_wp2_with fail
   revert nw;revert nd;revert hm;revert sb;revert fr;refine bk (ja _) ?_;rintro e w3 rfl fr sb hm nd nw
   go_wp2_with fail
   refine(kb hm (x:=(⟨popped,gave,u,⟨sh,kind,key⟩,aM,3,found,word⟩:bL)) ⟨sb,hfd,hwd,hu,hpop⟩ D2).mono ?_
   rintro e w9 ⟨rfl,jC,own,hf⟩
   replace fr:=fr.trans hf ag
   replace hm:=jC
   clear jC
   go_wp2_with fail
   go_ret
   exact⟨by rw[HST.out];rfl,by rw[HST.out];exact hm,by rw[HST.out];exact own,fr⟩
  ·skip
   have ja:=fun W=>(fun W=>(show Calls Tryz.prog 160 #[.agg #[.int .i64 da,.int .i64 dd,.int .i64 dv,.int .i64 dn,.bool dm,.int .i64 ds,.int .i64 dl],.int .i64 4] W _ from mq (⟨da,dd,dv,dn,dm,ds,dl⟩:Ds) 4 W)) W
   obtain⟨D2,hD2⟩:∃ D2,(⟨da,dd,dv,dn,dm,ds,dl⟩:Ds).with_ 4=D2:=⟨_,rfl⟩
   simp only[hD2] at ja
   have HST:Hid (bu M m (⟨popped,gave,u,⟨sh,kind,key⟩,aM,4,found,word⟩:bL)=(true,cas M m (M.L.desc u) found (cL ((⟨da,dd,dv,dn,dm,ds,dl⟩:Ds).with_ 4)),(⟨popped,gave,u,⟨sh,kind,key⟩,aM,4,found,word⟩:bL))):=Lib.hid (by unfold bu;simp only[zH.out,FC.out];first | rfl | simp)
   rw[hD2] at HST
   clear hD2
   go_wp2_with fail
   revert nw;revert nd;revert hm;revert sb;revert fr;refine bk (ja _) ?_;rintro e w3 rfl fr sb hm nd nw
   go_wp2_with fail
   refine(kb hm (x:=(⟨popped,gave,u,⟨sh,kind,key⟩,aM,4,found,word⟩:bL)) ⟨sb,hfd,hwd,hu,hpop⟩ D2).mono ?_
   rintro e w9 ⟨rfl,jC,own,hf⟩
   replace fr:=fr.trans hf ag
   replace hm:=jC
   clear jC
   go_wp2_with fail
   go_ret
   exact⟨by rw[HST.out];rfl,by rw[HST.out];exact hm,by rw[HST.out];exact own,fr⟩
  ·skip
   have HST:Hid (bu M m (⟨popped,gave,u,⟨sh,kind,key⟩,aM,5,found,word⟩:bL)=(false,m,(⟨popped,gave,u,⟨sh,kind,key⟩,aM,5,found,word⟩:bL).look (ld M m (getD' found).addr) 7 6 7)):=Lib.hid rfl
   go_wp2_with fail
   refine(rG hm (x:=(⟨popped,gave,u,⟨sh,kind,key⟩,aM,5,found,word⟩:bL)) ⟨sb,hfd,hwd,hu,hpop⟩ 7 6 7).mono ?_
   rintro e w9 ⟨rfl,jC,own,hf⟩
   replace fr:=fr.trans hf ag
   replace hm:=jC
   clear jC
   go_wp2_with fail
   go_ret
   exact⟨by rw[HST.out];rfl,by rw[HST.out];exact hm,by rw[HST.out];exact own,fr⟩
  ·skip
   have ja:=fun W=>(show Calls Tryz.prog 162 #[.agg #[.int .i64 k1,.int .i64 k2,.bool k3,.int .i64 k4,.int .i64 k5]] W _ from mj (⟨k1,k2,k3,k4,k5⟩:Wd) W hwf.ver)
   obtain⟨W2,hW2⟩:∃ W2,(⟨k1,k2,k3,k4,k5⟩:Wd).free=W2:=⟨_,rfl⟩
   simp only[hW2] at ja
   have zI:=fun W (h1:aj W C M m) (h2:SB W C c b 224 #[.int .i64 M.L.th,.int .i64 M.L.nd,.int .i64 popped,.int .i64 gave,.int .i64 u,.int .i64 sh,.int .i64 kind,.int .i64 key,.bool true,.int .i64 aM,.int .i64 6,.int .u64 found,.int .u64 word])=>uF h1 (x:=(⟨popped,gave,u,⟨sh,kind,key⟩,aM,6,found,word⟩:bL)) ⟨h2,hfd,hwd,hu,hpop⟩ W2
   simp only[zH.out] at zI
   have HST:Hid (bu M m (⟨popped,gave,u,⟨sh,kind,key⟩,aM,6,found,word⟩:bL)=(false,cas M m dd word (eU ((⟨k1,k2,k3,k4,k5⟩:Wd).free)),(⟨popped,gave,u,⟨sh,kind,key⟩,aM,7,found,word⟩:bL))):=Lib.hid (by unfold bu;simp only[zH.out,FC.out];first | rfl | simp)
   rw[hW2] at HST
   clear hW2
   go_wp2_with fail
   revert nw;revert nd;revert hm;revert sb;revert fr;refine bk (ja _) ?_;rintro e w3 rfl fr sb hm nd nw
   go_wp2_with fail
   refine(zI _ hm sb).mono ?_
   rintro e w9 ⟨rfl,jC,own,hf⟩
   replace fr:=fr.trans hf ag
   replace hm:=jC
   clear jC
   replace sb:=own.blk
   replace nd:=nd.fr hf (.inr (by decide))
   replace nw:=nw.fr hf (.inr (by decide))
   clear own hf
   have z3:=And.intro sb (And.intro nd nw)
   revert nw;revert nd;revert hm;revert fr;refine st1 sb 10 (.int .i64 7) (aL c) ag ?_;clear sb;rintro w4 e1 fr sb hm nd nw
   simp only[sx] at sb
   go_wp2_with fail
   clear z3 e1
   go_ret
   exact⟨by rw[HST.out];rfl,by rw[HST.out];exact hm,by rw[HST.out];exact⟨sb,hfd,hwd,hu,hpop⟩,fr⟩
  ·skip
   have ja:=fun W=>(fun W=>(show Calls Tryz.prog 101 #[.agg #[.int .i64 da,.int .i64 dd,.int .i64 dv,.int .i64 dn,.bool dm,.int .i64 ds,.int .i64 dl],.agg #[.int .i64 0,.bool true,.int .i64 dl]] W (fun e w'=>e= .returned (Ds.vals ((⟨da,dd,dv,dn,dm,ds,dl⟩:Ds).ended 0 true dl))∧Below W.heap.size W w') from oc (⟨da,dd,dv,dn,dm,ds,dl⟩:Ds) 0 true dl W)) W
   obtain⟨D2,hD2⟩:∃ D2,(⟨da,dd,dv,dn,dm,ds,dl⟩:Ds).ended 0 true dl=D2:=⟨_,rfl⟩
   simp only[hD2] at ja
   have HST:Hid (bu M m (⟨popped,gave,u,⟨sh,kind,key⟩,aM,7,found,word⟩:bL)=(true,cas M m (M.L.desc u) found (cL ((⟨da,dd,dv,dn,dm,ds,dl⟩:Ds).ended 0 true dl)),(⟨popped,gave,u,⟨sh,kind,key⟩,aM,7,found,word⟩:bL))):=Lib.hid (by unfold bu;simp only[zH.out,FC.out];first | rfl | simp)
   rw[hD2] at HST
   clear hD2
   go_wp2_with fail
   revert nw;revert nd;revert hm;revert sb;revert fr;refine bk (ja _) ?_;rintro e w3 rfl fr sb hm nd nw
   go_wp2_with fail
   refine(kb hm (x:=(⟨popped,gave,u,⟨sh,kind,key⟩,aM,7,found,word⟩:bL)) ⟨sb,hfd,hwd,hu,hpop⟩ D2).mono ?_
   rintro e w9 ⟨rfl,jC,own,hf⟩
   replace fr:=fr.trans hf ag
   replace hm:=jC
   clear jC
   go_wp2_with fail
   go_ret
   exact⟨by rw[HST.out];rfl,by rw[HST.out];exact hm,by rw[HST.out];exact own,fr⟩
  ·skip
   have ja:=fun W=>(show Calls Tryz.prog 124 #[.agg #[.int .i64 da,.int .i64 dd,.int .i64 dv,.int .i64 dn,.bool dm,.int .i64 ds,.int .i64 dl]] W _ from oa (⟨da,dd,dv,dn,dm,ds,dl⟩:Ds) hdf.aM W)
   obtain⟨D2,hD2⟩:∃ D2,(⟨da,dd,dv,dn,dm,ds,dl⟩:Ds).cm=D2:=⟨_,rfl⟩
   simp only[hD2] at ja
   have rH:=fun W (h1:aj W C M m) (h2:SB W C c b 224 #[.int .i64 M.L.th,.int .i64 M.L.nd,.int .i64 popped,.int .i64 gave,.int .i64 u,.int .i64 sh,.int .i64 kind,.int .i64 key,.bool true,.int .i64 aM,.int .i64 9,.int .u64 found,.int .u64 word])=>kb h1 (x:=(⟨popped,gave,u,⟨sh,kind,key⟩,aM,9,found,word⟩:bL)) ⟨h2,hfd,hwd,hu,hpop⟩ D2
   have fJ:=fun W=>(show Calls Tryz.prog 104 #[.agg #[.int .i64 sh,.int .i64 kind,.int .i64 key]] W _ from a4 ⟨sh,kind,key⟩ W)
   have HJ:=fun W=>tJ M.L dn W
   obtain⟨q,hq⟩:∃ q,bS M m (M.L.desc u) found=q:=⟨_,rfl⟩
   obtain⟨pp,hpp⟩:∃ pp,(⟨sh,kind,key⟩:bq).links=pp:=⟨_,rfl⟩
   obtain⟨nn,hnn⟩:∃ nn,M.L.node dn=nn:=⟨_,rfl⟩
   simp only[hq] at rH
   simp only[hpp] at fJ
   simp only[hnn] at HJ
   have HST:Hid (bu M m (⟨popped,gave,u,⟨sh,kind,key⟩,aM,8,found,word⟩:bL)=(!q || (!pp || !nn),cas M m (M.L.desc u) found (cL D2),(⟨popped,gave,u,⟨sh,kind,key⟩,aM,9,found,word⟩:bL))):=Lib.hid (by rw[←hq,←hpp,←hnn,←hD2];unfold bu;simp only[zH.out,FC.out];first | rfl | simp)
   clear hD2 hq hpp hnn
   have z3:=And.intro sb (And.intro nd nw)
   revert nw;revert nd;revert hm;revert fr;refine st1 sb 10 (.int .i64 9) (aL c) ag ?_;clear sb;rintro w3 e1 fr sb hm nd nw
   simp only[sx] at sb
   go_wp2_with fail
   clear z3 e1
   cases q<;>cases pp
   ·skip
    revert nw;revert nd;revert hm;revert sb;revert fr;refine bD ?_;intro fr sb hm nd nw
    obtain⟨q1,q2,q3,qi⟩:=cF sb nd nw
    refine aY sb nd nw 21 [([0,1,2],3),([],4),([5,6,7,8,9,10],11)] [12,13,14,15,16,17,18,19,20] [21,22,23,24] (by kernel_rfl) (by kernel_rfl) ?_
    refine ai ?_;simp only[ox];repeat(go_big_quiet_step (fail))
    refine di rfl (fun K' hK'=> ?_);go_simp
    revert fr sb hm nd nw;with_reducible refine bk (ja _) ?_;rintro e w4 rfl fr sb hm nd nw
    refine hK' _ _ (jz sb nd nw) ?_;clear hK' K'
    refine ai ?_;simp only[ox];repeat(go_big_quiet_step (fail))
    refine di rfl (fun K' hK'=> ?_);go_simp
    ((with_reducible refine(rH _ hm sb).mono ?_);clear hm;rintro e w5 ⟨rfl,hm,own,hf⟩)
    revert fr nd nw;refine dS hf (fun _ h=>h) (fun _ h=>h) ag ?_;clear hf;intro fr nd nw
    replace sb:SB w5 C c b 224 #[.int .i64 M.L.th,.int .i64 M.L.nd,.int .i64 popped,.int .i64 gave,.int .i64 u,.int .i64 sh,.int .i64 kind,.int .i64 key,.bool true,.int .i64 aM,.int .i64 9,.int .u64 found,.int .u64 word]:=own.blk
    clear own
    refine hK' _ _ (jz sb nd nw) ?_;clear hK' K'
    refine ai ?_;simp only[ox];repeat(go_big_quiet_step (fail))
    refine di rfl (fun K' hK'=> ?_);go_simp
    refine hK' _ _ (jz sb nd nw) ?_;clear hK' K'
    refine af ?_;try simp only[ox]
    repeat(go_big_quiet_step (fail))
    refine wpQuiet_nil ?_
    refine ae _ _ _ (by kernel_rfl) ?_;try simp only[ox]
    clear qi q1 q2 q3
    go_wp2_with fail
    refine NoPanic.normal ?_
    go_wp2_with fail
    go_ret
    exact⟨by rw[HST.out];rfl,by rw[HST.out];exact hm,by rw[HST.out];exact⟨sb,hfd,hwd,hu,hpop⟩,fr⟩
   ·skip
    revert nw;revert nd;revert hm;revert sb;revert fr;refine bD ?_;intro fr sb hm nd nw
    obtain⟨q1,q2,q3,qi⟩:=cF sb nd nw
    refine aY sb nd nw 21 [([0,1,2],3),([],4),([5,6,7,8,9,10],11)] [12,13,14,15,16,17,18,19,20] [21,22,23,24] (by kernel_rfl) (by kernel_rfl) ?_
    refine ai ?_;simp only[ox];repeat(go_big_quiet_step (fail))
    refine di rfl (fun K' hK'=> ?_);go_simp
    revert fr sb hm nd nw;with_reducible refine bk (ja _) ?_;rintro e w4 rfl fr sb hm nd nw
    refine hK' _ _ (jz sb nd nw) ?_;clear hK' K'
    refine ai ?_;simp only[ox];repeat(go_big_quiet_step (fail))
    refine di rfl (fun K' hK'=> ?_);go_simp
    ((with_reducible refine(rH _ hm sb).mono ?_);clear hm;rintro e w5 ⟨rfl,hm,own,hf⟩)
    revert fr nd nw;refine dS hf (fun _ h=>h) (fun _ h=>h) ag ?_;clear hf;intro fr nd nw
    replace sb:SB w5 C c b 224 #[.int .i64 M.L.th,.int .i64 M.L.nd,.int .i64 popped,.int .i64 gave,.int .i64 u,.int .i64 sh,.int .i64 kind,.int .i64 key,.bool true,.int .i64 aM,.int .i64 9,.int .u64 found,.int .u64 word]:=own.blk
    clear own
    refine hK' _ _ (jz sb nd nw) ?_;clear hK' K'
    refine ai ?_;simp only[ox];repeat(go_big_quiet_step (fail))
    refine di rfl (fun K' hK'=> ?_);go_simp
    refine hK' _ _ (jz sb nd nw) ?_;clear hK' K'
    refine af ?_;try simp only[ox]
    repeat(go_big_quiet_step (fail))
    refine wpQuiet_nil ?_
    refine ae _ _ _ (by kernel_rfl) ?_;try simp only[ox]
    clear qi q1 q2 q3
    go_wp2_with fail
    refine NoPanic.normal ?_
    go_wp2_with fail
    go_ret
    exact⟨by rw[HST.out];rfl,by rw[HST.out];exact hm,by rw[HST.out];exact⟨sb,hfd,hwd,hu,hpop⟩,fr⟩
   ·skip
    revert nw;revert nd;revert hm;revert sb;revert fr;refine bD ?_;intro fr sb hm nd nw
    obtain⟨q1,q2,q3,qi⟩:=cF sb nd nw
    refine aY sb nd nw 21 [([0,1,2],3),([],4),([5,6,7,8,9,10],11)] [12,13,14,15,16,17,18,19,20] [21,22,23,24] (by kernel_rfl) (by kernel_rfl) ?_
    refine ai ?_;simp only[ox];repeat(go_big_quiet_step (fail))
    refine di rfl (fun K' hK'=> ?_);go_simp
    revert fr sb hm nd nw;with_reducible refine bk (ja _) ?_;rintro e w4 rfl fr sb hm nd nw
    refine hK' _ _ (jz sb nd nw) ?_;clear hK' K'
    refine ai ?_;simp only[ox];repeat(go_big_quiet_step (fail))
    refine di rfl (fun K' hK'=> ?_);go_simp
    ((with_reducible refine(rH _ hm sb).mono ?_);clear hm;rintro e w5 ⟨rfl,hm,own,hf⟩)
    revert fr nd nw;refine dS hf (fun _ h=>h) (fun _ h=>h) ag ?_;clear hf;intro fr nd nw
    replace sb:SB w5 C c b 224 #[.int .i64 M.L.th,.int .i64 M.L.nd,.int .i64 popped,.int .i64 gave,.int .i64 u,.int .i64 sh,.int .i64 kind,.int .i64 key,.bool true,.int .i64 aM,.int .i64 9,.int .u64 found,.int .u64 word]:=own.blk
    clear own
    refine hK' _ _ (jz sb nd nw) ?_;clear hK' K'
    refine ai ?_;simp only[ox];repeat(go_big_quiet_step (fail))
    refine di rfl (fun K' hK'=> ?_);go_simp
    revert nw;revert nd;revert hm;revert sb;revert fr;with_reducible refine bk (fJ _) ?_;rintro e w6 rfl fr sb hm nd nw
    refine hK' _ _ (jz sb nd nw) ?_;clear hK' K'
    refine af ?_;try simp only[ox]
    repeat(go_big_quiet_step (fail))
    refine wpQuiet_nil ?_
    refine ae _ _ _ (by kernel_rfl) ?_;try simp only[ox]
    clear qi q1 q2 q3
    go_wp2_with fail
    refine NoPanic.normal ?_
    go_wp2_with fail
    go_ret
    exact⟨by rw[HST.out];rfl,by rw[HST.out];exact hm,by rw[HST.out];exact⟨sb,hfd,hwd,hu,hpop⟩,fr⟩
   ·skip
    revert nw;revert nd;revert hm;revert sb;revert fr;refine bD ?_;intro fr sb hm nd nw
    obtain⟨q1,q2,q3,qi⟩:=cF sb nd nw
    refine aY sb nd nw 21 [([0,1,2],3),([],4),([5,6,7,8,9,10],11)] [12,13,14,15,16,17,18,19,20] [21,22,23,24] (by kernel_rfl) (by kernel_rfl) ?_
    refine ai ?_;simp only[ox];repeat(go_big_quiet_step (fail))
    refine di rfl (fun K' hK'=> ?_);go_simp
    revert fr sb hm nd nw;with_reducible refine bk (ja _) ?_;rintro e w4 rfl fr sb hm nd nw
    refine hK' _ _ (jz sb nd nw) ?_;clear hK' K'
    refine ai ?_;simp only[ox];repeat(go_big_quiet_step (fail))
    refine di rfl (fun K' hK'=> ?_);go_simp
    ((with_reducible refine(rH _ hm sb).mono ?_);clear hm;rintro e w5 ⟨rfl,hm,own,hf⟩)
    revert fr nd nw;refine dS hf (fun _ h=>h) (fun _ h=>h) ag ?_;clear hf;intro fr nd nw
    replace sb:SB w5 C c b 224 #[.int .i64 M.L.th,.int .i64 M.L.nd,.int .i64 popped,.int .i64 gave,.int .i64 u,.int .i64 sh,.int .i64 kind,.int .i64 key,.bool true,.int .i64 aM,.int .i64 9,.int .u64 found,.int .u64 word]:=own.blk
    clear own
    refine hK' _ _ (jz sb nd nw) ?_;clear hK' K'
    refine ai ?_;simp only[ox];repeat(go_big_quiet_step (fail))
    refine di rfl (fun K' hK'=> ?_);go_simp
    revert nw;revert nd;revert hm;revert sb;revert fr;with_reducible refine bk (fJ _) ?_;rintro e w6 rfl fr sb hm nd nw
    refine hK' _ _ (jz sb nd nw) ?_;clear hK' K'
    refine af ?_;try simp only[ox]
    repeat(go_big_quiet_step (fail))
    refine wpQuiet_nil ?_
    refine ae _ _ _ (by kernel_rfl) ?_;try simp only[ox]
    clear qi q1 q2 q3
    go_wp2_with fail
    revert fr sb hm nd nw;refine bk (HJ _) ?_;rintro e w7 rfl fr sb hm nd nw
    go_wp2_with fail
    refine NoPanic.normal ?_
    go_wp2_with fail
    go_ret
    exact⟨by rw[HST.out];rfl,by rw[HST.out];exact hm,by rw[HST.out];exact⟨sb,hfd,hwd,hu,hpop⟩,fr⟩
  ·skip
   have hnx:=hdf.next
   simp only at hnx
   have HST:Hid (bu M m (⟨popped,gave,u,⟨sh,kind,key⟩,aM,9,found,word⟩:bL)=(true,add M m (M.L.life dn) 1,⟨popped,dn,u,⟨sh,kind,key⟩,aM,9,found,word⟩)):=Lib.hid (by unfold bu;simp only[zH.out,FC.out];first | rfl | simp)
   go_wp2_with fail
   revert nw;revert nd;revert hm;revert sb;revert fr;refine bD ?_;intro fr sb hm nd nw
   obtain⟨q1,q2,q3,qi⟩:=cF sb nd nw
   refine aY sb nd nw 7 [] [0,1,2,3,4,5,6] [7,8] (by kernel_rfl) (by kernel_rfl) ?_
   refine af ?_;try simp only[ox]
   repeat(go_big_quiet_step (fail))
   refine wpQuiet_nil ?_
   refine ae _ _ _ (by kernel_rfl) ?_;try simp only[ox]
   clear qi q1 q2 q3
   go_wp2_with fail
   refine(jF M.L hm.ok dn (by omega) _).mono ?_;rintro e w3 ⟨rfl,hb3⟩
   revert fr sb hm nd nw;refine dX hb3 ?_;intro fr sb hm nd nw
   go_wp2_with fail
   refine(r9 hm (M.L.life dn) 1).mono ?_;clear hm;rintro e w4 ⟨rfl,hm,hf⟩
   revert fr sb nd nw;refine dS hf (aS c) fO ag ?_;clear hf;intro fr sb nd nw
   have z3:=And.intro sb (And.intro nd nw)
   revert hm nd nw;revert fr;refine st1 sb 3 (.int .i64 dn) (aL c) ag ?_;clear sb;rintro w5 e1 fr sb hm nd nw
   simp only[sx] at sb
   go_wp2_with fail
   refine NoPanic.normal ?_
   go_wp2_with fail
   clear z3 e1
   go_ret
   exact⟨by rw[HST.out];rfl,by rw[HST.out];exact hm,by rw[HST.out];exact⟨sb,hfd,hwd,hu,hpop⟩,fr⟩
def dT (w:World) (C:Nat→Nat) (c sg b:Nat) (pe pn pf pc pp:Value) (h:aK):Prop:=SB w C c b 171 #[.pointer (some ⟨sg,0,none⟩),.int .i64 h.u,.int .u64 h.no,.int .i64 h.rounds,.int .i64 h.limit,.int .i64 h.at_,.int .u64 h.found,.int .i64 h.task.sh,.int .i64 h.task.kind,.int .i64 h.task.key,.bool h.plan.now,.int .i64 h.plan.res.code,.bool h.plan.res.ok,.int .i64 h.plan.res.val,.int .i64 h.plan.addr,.int .u64 h.plan.old,.int .i64 h.plan.next,.bool h.plan.mark,.int .i64 h.plan.pops,pe,pn,pf,pc,pp]
structure br (w:World) (C:Nat→Nat) (c s sg b:Nat) (L:Ly) (h:aK):Prop where
 ex:∃ pe pn pf pc pp,dT w C c sg b pe pn pf pc pp h∧(h.at_=3→∃ b',pe= .pointer (some ⟨b',0,none⟩)∧fN w C c b' L h.exec)∧(h.at_=4→∃ b',pn= .pointer (some ⟨b',0,none⟩)∧fh w C c s sg b' L h.a5)∧
  (h.at_=5→∃ b',pf= .pointer (some ⟨b',0,none⟩)∧eK w C c b' L h.find)∧(h.at_=7→∃ b',pc= .pointer (some ⟨b',0,none⟩)∧gl w C c b' L h.cl)∧(h.at_=8→∃ b',pp= .pointer (some ⟨b',0,none⟩)∧jK w C c sg b' h.aD)
def Km:List (Option TypeId):=[some 171,some 224,some 157,some 3,some 230,some 236]++Jz
variable {w':World} {C':Nat→Nat} {K:Nat→Prop} {T:List (Option TypeId)} {s sg:Nat} {L:Ly}
theorem br.mv {h:aK} (hh:br w C c s sg b L h) (k:Fr C K T w w') (a:aB w.heap.size C C') (hk:(¬ K c∧¬ K s)∨dr Km T):br w' C' c s sg b L h:=by
 obtain⟨pe,pn,pf,pc,pp,h1,h2,h3,h4,h5,h6⟩:=hh.ex
 refine⟨pe,pn,pf,pc,pp,SB.mv h1 k a (hk.imp (·.1) (fun h=>h _ (by decide))),fun e=> ?_,fun e=> ?_,fun e=> ?_,fun e=> ?_,fun e=> ?_⟩
 ·obtain⟨bf,e1,e2⟩:=h2 e
  exact⟨bf,e1,e2.mv k a (hk.imp (·.1) (fun h x hx=>h x (by revert x;decide)))⟩
 ·obtain⟨bf,e1,e2⟩:=h3 e
  exact⟨bf,e1,e2.mv k a (hk.imp id (fun h x hx=>h x (by revert x;decide)))⟩
 ·obtain⟨bf,e1,e2⟩:=h4 e
  exact⟨bf,e1,e2.mv k a (hk.imp (·.1) (fun h x hx=>h x (by revert x;decide)))⟩
 ·obtain⟨bf,e1,e2⟩:=h5 e
  exact⟨bf,e1,e2.mv k a (hk.imp (·.1) (fun h=>h _ (by decide)))⟩
 ·obtain⟨bf,e1,e2⟩:=h6 e
  exact⟨bf,e1,e2.mv k a (hk.imp (·.1) (fun h x hx=>h x (by revert x;decide)))⟩
instance {w:World} {C:Nat→Nat} {c s sg b:Nat} {L:Ly} {x:aK}:Mv (br w C c s sg b L x) w C Km (fun w' C'=>br w' C' c s sg b L x):=⟨fun h k a hk=>h.mv k a (.inr hk)⟩
theorem uO (sg:Nat) (L:Ly) (s:Nat) (u no limit:Int) (C:Nat→Nat) (c:Nat) (w:World):Calls Tryz.prog 78 #[.pointer (some ⟨sg,0,none⟩),.int .i64 u,.int .u64 no,.int .i64 limit] w (kH C c (fun w' C' b=>br w' C' c s sg b L (.new L u no limit)) w):=by
 go_enter Tryz.func78,Tryz.ntmps78
 go_wp2_with fail
 go_ret
 exact⟨⟨w.heap.size,rfl,Nat.le_refl _,⟨_,_,_,_,_,SB.new _ _ (aO C c (Nat.le_refl _)) _ _ rfl,(fun h=>by simp[aK.new] at h),(fun h=>by simp[aK.new] at h),(fun h=>by simp[aK.new] at h),(fun h=>by simp[aK.new] at h),(fun h=>by simp[aK.new] at h)⟩⟩,(Below.refl _ _).alloc (Nat.le_refl _) _⟩
structure aK.Ok (h:aK) (N:Int):Prop where
 found:0≤h.found∧h.found<18446744073709551616
 u:0≤h.u∧h.u≤7
 rounds:0≤h.rounds∧h.rounds≤N
structure OM (C:Nat→Nat) (c:Nat) (LX:List (Option TypeId)) (v:Value) (M:ML) (m':Mm) (P:World→Prop) (w:World) (e:Ending) (w':World):Prop where
 ret:e= .returned v
 mem:aj w' C M m'
 own:P w'
 fr:Fr C (Kc c) LX w w'
def JC:List (Option TypeId):=[some 171,some 75,some 34]
theorem FD:∀ x,x∈LM→x∈JC:=by decide
theorem dI {h:aK} {pe pn pf pc pp:Value} (sb:dT w C c sg b pe pn pf pc pp h) (hfd:0≤h.found∧h.found<18446744073709551616):Calls Tryz.prog 97 #[.pointer (some ⟨b,0,none⟩)] w fun e w'=>e= .returned (getD' h.found).vals∧Below w.heap.size w w':=by
 unfold dT at sb
 obtain⟨u,no,rounds,limit,at_,found,⟨sh,kind,key⟩,⟨g0,⟨g1,g2,g3⟩,g4,g5,g6,g7,g8⟩,exec,a5,find,cl,aD⟩:=h
 simp only at sb hfd⊢
 have HG:=fun W=>fC found W hfd
 obtain⟨D,hD⟩:∃ D,getD' found=D:=⟨_,rfl⟩
 simp only[hD] at HG⊢
 obtain⟨da,dd,dv,dn,dm,ds,dl⟩:=D
 simp only[Ds.vals] at HG⊢
 have hl:=sb.lt
 clear hD
 go_enter Tryz.func97,Tryz.ntmps97
 have fr:=Fr.refl C (fun _=>False) [] w
 have ag:=aB.refl w.heap.size C
 have z1:=sb
 revert sb;revert fr;refine bx1 161 #[.int .i64 0,.int .i64 0,.int .i64 0,.int .i64 0,.bool false,.int .i64 0,.int .i64 0] ?_;rintro w1 FB Kh fr dz sb
 go_wp2_with fail
 clear FB z1
 revert fr dz sb;refine bk (HG _) ?_;rintro e w2 rfl fr dz sb
 have z2:=And.intro sb dz
 have hR:=ko
 revert fr sb;refine gO dz [(0,.int .i64 da),(1,.int .i64 dd),(2,.int .i64 dv),(3,.int .i64 dn),(4,.bool dm),(5,.int .i64 ds),(6,.int .i64 dl)] ?_;clear dz;rintro w3 e1 fr dz sb
 simp only[stx,sx] at e1 dz
 go_wp2_with fail
 clear z2 e1 hR
 refine bodyPost_ret (v:= .agg #[.int .i64 da,.int .i64 dd,.int .i64 dv,.int .i64 dn,.bool dm,.int .i64 ds,.int .i64 dl]) (by simp[results,Tryz.results97,go_sem,dz.1]) rfl ⟨rfl,fr.b4⟩
variable {me:Int} {t:cV}
theorem kc {h:aK} {pe pn pf pc pp:Value} (hm:aj w C M m) (hst:al w C s sg M.L me t) (sb:dT w C c sg b pe pn pf pc pp h) (hu:0≤h.u∧h.u≤7) (x:Int) (hx:0≤x∧x<18446744073709551616):Calls Tryz.prog 102 #[.pointer (some ⟨b,0,none⟩),.pointer (some ⟨M.b,0,none⟩),.int .u64 x] w (OM C c JC (.bool (bS M m (M.L.desc h.u) h.found)) M (cas M m (M.L.desc h.u) h.found x) (fun w'=>dT w' C c sg b pe pn pf pc pp { h with at_:=0 }) w):=by
 obtain⟨⟨A,n,cap,hn,st,hrow⟩,hme,hsp,hsm⟩:=hst
 unfold dT at sb
 obtain⟨u,no,rounds,limit,at_,found,⟨sh,kind,key⟩,⟨g0,⟨g1,g2,g3⟩,g4,g5,g6,g7,g8⟩,exec,a5,find,cl,aD⟩:=h
 simp only at sb hu⊢
 clear hn hrow hsm
 go_enter Tryz.func102,Tryz.ntmps102
 have fr:=Fr.refl C (Kc c) JC w
 have ag:=aB.refl w.heap.size C
 go_wp2_with fail
 have z1:=And.intro sb st
 revert st;revert hm;revert fr;refine st1 sb 5 (.int .i64 0) (aL c) ag ?_;clear sb;rintro w1 e1 fr sb hm st
 simp only[sx] at sb
 go_wp2_with fail
 simp only[e1]
 clear z1 e1
 revert fr hm st sb;refine bD ?_;intro fr hm st sb
 obtain⟨q1,q2,qi⟩:=bl sb st
 refine aA sb st 18 [] [0,1,2,3,4,5,6,7,8,9,10,11,13,14,15,16,17] [12,18,19] (by kernel_rfl) (by kernel_rfl) ?_
 refine af ?_;try simp only[ox]
 repeat(go_big_quiet_step (fail))
 refine wpQuiet_nil ?_
 refine ay rfl (fun K' hK'=> ?_);go_simp
 ((with_reducible refine(cC M.L hm.ok u (by omega) _).mono ?_);rintro e w2 ⟨rfl,hb2⟩)
 revert fr hm st sb;refine dX hb2 ?_;intro fr hm st sb
 refine hK' _ _ (eJ sb st) ?_;clear hK' K'
 refine ae _ _ _ (by kernel_rfl) ?_;try simp only[ox]
 clear qi q1 q2
 go_wp2_with fail
 refine(fq hm (M.L.desc u) found x hx).mono ?_;clear hm;rintro e w3 ⟨rfl,hm,hf⟩
 revert fr st sb;refine dS hf (aS c) FD ag ?_;clear hf;intro fr st sb
 go_wp2_with fail
 refine NoPanic.normal ?_
 go_wp2_with fail
 go_ret
 exact⟨rfl,hm,sb,fr⟩
theorem jO {h:aK} {pe pn pf pc pp:Value} (hL:L.Ok) (hst:al w C s sg L me t) (sb:dT w C c sg b pe pn pf pc pp h) (hmay:h.task.may=true):Calls Tryz.prog 144 #[.pointer (some ⟨b,0,none⟩)] w (OW C (K0 c) [some 171] (.tuple #[]) (fun w' C'=>br w' C' c s sg b L (h.search L me)) w):=by
 obtain⟨⟨A,n,cap,hn,st,hrow⟩,hme,hsp,hsm⟩:=hst
 unfold dT at sb
 obtain⟨u,no,rounds,limit,at_,found,⟨sh,kind,key⟩,⟨g0,⟨g1,g2,g3⟩,g4,g5,g6,g7,g8⟩,exec,a5,find,cl,aD⟩:=h
 simp only at sb hmay
 have hkr:=(bq.rng hmay).key
 have Ez:=bq.oM hmay
 simp only at hkr
 have oN:∀ W,Calls Tryz.prog 127 #[.agg #[.int .i64 sh,.int .i64 kind,.int .i64 key]] W fun e w'=>e= .returned (.agg #[.int .i64 (bq.head ⟨sh,kind,key⟩),.int .i64 (bq.lC ⟨sh,kind,key⟩)])∧Below W.heap.size W w':=fun W=>kN ⟨sh,kind,key⟩ (by simp only;omega) W
 obtain⟨hd,hhd⟩:∃ hd,bq.head ⟨sh,kind,key⟩=hd:=⟨_,rfl⟩
 obtain⟨pk,hpk⟩:∃ pk,bq.lC ⟨sh,kind,key⟩=pk:=⟨_,rfl⟩
 simp only[hhd,hpk] at oN Ez
 have Hx:=fun C' W=>oD L hL me hd pk limit Ez C' c W
 have HST:Hid (aK.search L me (⟨u,no,rounds,limit,at_,found,⟨sh,kind,key⟩,⟨g0,⟨g1,g2,g3⟩,g4,g5,g6,g7,g8⟩,exec,a5,find,cl,aD⟩:aK)=(⟨u,no,rounds,limit,5,found,⟨sh,kind,key⟩,⟨g0,⟨g1,g2,g3⟩,g4,g5,g6,g7,g8⟩,exec,a5,.new L me hd pk limit,cl,aD⟩:aK)):=Lib.hid (by unfold aK.search;simp only[hhd,hpk])
 clear hhd hpk hn hrow hsm
 go_enter Tryz.func144,Tryz.ntmps144
 have fr:=Fr.refl C (K0 c) [some 171] w
 have ag:=aB.refl w.heap.size C
 go_wp2_with fail
 revert st;revert sb;revert fr;refine bk (oN _) ?_;rintro e w1 rfl fr sb st
 have z1:=And.intro sb st
 revert fr sb st;refine bx1 195 #[.int .i64 hd,.int .i64 pk] ?_;rintro w2 Hy LD fr pb sb st
 go_wp2_with fail
 clear Hy z1
 revert fr pb sb st;refine bD ?_;intro fr pb sb st
 obtain⟨q1,q2,q3,qi⟩:=cF sb st pb
 refine aY sb st pb 24 [] [0,1,2,3,4,5,6,7,8,9,10,11,12,13,14,15,16,17,18,19,20,21,22,23] [24,25,26,27,28,29,30] (by kernel_rfl) (by kernel_rfl) ?_
 refine af ?_;try simp only[ox]
 repeat(go_big_quiet_step (fail))
 refine wpQuiet_nil ?_
 refine ae _ _ _ (by kernel_rfl) ?_;try simp only[ox]
 clear qi q1 q2 q3
 go_wp2_with fail
 revert ag fr pb sb st;refine fL (Hx C _) ?_;rintro w3 bf C3 ag fr hfi pb sb st
 have z2:=And.intro sb (And.intro st pb)
 revert fr hfi pb st;refine st1 sb 5 (.int .i64 5) (fun _ h=>h) ag ?_;clear sb;rintro w4 e1 fr sb hfi pb st
 simp only[sx] at sb
 have z3:=And.intro sb (And.intro st pb)
 revert fr hfi pb st;refine st1 sb 21 (.pointer (some ⟨bf,0,none⟩)) (fun _ h=>h) ag ?_;clear sb;rintro w5 e2 fr sb hfi pb st
 simp only[sx] at sb
 go_wp2_with fail
 refine NoPanic.normal ?_
 go_wp2_with fail
 clear z2 e1 z3 e2
 go_end0
 exact⟨rfl,⟨_,ag,by rw[HST.out];exact⟨_,_,_,_,_,sb,fun h=>by simp at h,fun h=>by simp at h,fun _=>⟨bf,rfl,hfi⟩,fun h=>by simp at h,fun h=>by simp at h⟩⟩,fr⟩
end Go.Proofs.YtbcnnhlpilmmbaaGreat
