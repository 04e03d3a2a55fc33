/- Texts that are wanted for PTopFull.
   Conditions: none. -/
import Derived.Test.YtbcnnhlpilmmbaaGreatJPTopFull15
set_option maxRecDepth 100000
set_option maxHeartbeats 6400000
namespace Go.Proofs.YtbcnnhlpilmmbaaGreat
open Go Go.RowKit
def jd (a b:Int):Int:=if a<b then -1 else if b<a then 1 else 0
theorem eG (x:Int) (w:World):Calls Tryz.prog 194 #[.int .u64 x] w fun e w'=>e= .returned (.bool false)∧w=w':=by
 have h:(x !=x)=false:=by simp
 go_enter Tryz.func194,Tryz.ntmps194
 go_wp2_with fail
 go_ret
 exact⟨rfl,rfl⟩
theorem eH (x:Int) (w:World):Calls Tryz.prog 195 #[.int .i64 x] w fun e w'=>e= .returned (.bool false)∧w=w':=by
 have h:(x !=x)=false:=by simp
 go_enter Tryz.func195,Tryz.ntmps195
 go_wp2_with fail
 go_ret
 exact⟨rfl,rfl⟩
theorem qQ (a b:Int) (w:World):Calls Tryz.prog 177 #[.int .u64 a,.int .u64 b] w fun e w'=>e= .returned (.int .i64 (jd a b))∧w=w':=by
 rcases(by omega:a<b∨b<a∨a=b) with h | h | h
 ·have HST:Hid (jd a b= -1):=Lib.hid (by unfold jd;rw[if_pos h])
  have d1:decide (a<b)=true:=decide_eq_true h
  clear h
  go_enter Tryz.func177,Tryz.ntmps177
  go_wp2_with fail
  refine(eG _ _).mono ?_
  rintro e w' ⟨rfl,rfl⟩
  go_wp2_with fail
  refine(eG _ _).mono ?_
  rintro e w' ⟨rfl,rfl⟩
  go_wp2_with fail
  go_ret
  exact⟨by rw[HST.out];rfl,rfl⟩
 ·have HST:Hid (jd a b=1):=Lib.hid (by unfold jd;rw[if_neg (by omega),if_pos h])
  have d1:decide (a<b)=false:=decide_eq_false (by omega)
  have d2:decide (a>b)=true:=decide_eq_true h
  clear h
  go_enter Tryz.func177,Tryz.ntmps177
  go_wp2_with fail
  refine(eG _ _).mono ?_
  rintro e w' ⟨rfl,rfl⟩
  go_wp2_with fail
  refine(eG _ _).mono ?_
  rintro e w' ⟨rfl,rfl⟩
  go_wp2_with fail
  go_ret
  exact⟨by rw[HST.out];rfl,rfl⟩
 ·have HST:Hid (jd a b=0):=Lib.hid (by unfold jd;rw[if_neg (by omega),if_neg (by omega)])
  have d1:decide (a<b)=false:=decide_eq_false (by omega)
  have d2:decide (a>b)=false:=decide_eq_false (by omega)
  clear h
  go_enter Tryz.func177,Tryz.ntmps177
  go_wp2_with fail
  refine(eG _ _).mono ?_
  rintro e w' ⟨rfl,rfl⟩
  go_wp2_with fail
  refine(eG _ _).mono ?_
  rintro e w' ⟨rfl,rfl⟩
  go_wp2_with fail
  go_ret
  exact⟨by rw[HST.out];rfl,rfl⟩
theorem qR (a b:Int) (w:World):Calls Tryz.prog 178 #[.int .i64 a,.int .i64 b] w fun e w'=>e= .returned (.int .i64 (jd a b))∧w=w':=by
 rcases(by omega:a<b∨b<a∨a=b) with h | h | h
 ·have HST:Hid (jd a b= -1):=Lib.hid (by unfold jd;rw[if_pos h])
  have d1:decide (a<b)=true:=decide_eq_true h
  clear h
  go_enter Tryz.func178,Tryz.ntmps178
  go_wp2_with fail
  refine(eH _ _).mono ?_
  rintro e w' ⟨rfl,rfl⟩
  go_wp2_with fail
  refine(eH _ _).mono ?_
  rintro e w' ⟨rfl,rfl⟩
  go_wp2_with fail
  go_ret
  exact⟨by rw[HST.out];rfl,rfl⟩
 ·have HST:Hid (jd a b=1):=Lib.hid (by unfold jd;rw[if_neg (by omega),if_pos h])
  have d1:decide (a<b)=false:=decide_eq_false (by omega)
  have d2:decide (a>b)=true:=decide_eq_true h
  clear h
  go_enter Tryz.func178,Tryz.ntmps178
  go_wp2_with fail
  refine(eH _ _).mono ?_
  rintro e w' ⟨rfl,rfl⟩
  go_wp2_with fail
  refine(eH _ _).mono ?_
  rintro e w' ⟨rfl,rfl⟩
  go_wp2_with fail
  go_ret
  exact⟨by rw[HST.out];rfl,rfl⟩
 ·have HST:Hid (jd a b=0):=Lib.hid (by unfold jd;rw[if_neg (by omega),if_neg (by omega)])
  have d1:decide (a<b)=false:=decide_eq_false (by omega)
  have d2:decide (a>b)=false:=decide_eq_false (by omega)
  clear h
  go_enter Tryz.func178,Tryz.ntmps178
  go_wp2_with fail
  refine(eH _ _).mono ?_
  rintro e w' ⟨rfl,rfl⟩
  go_wp2_with fail
  refine(eH _ _).mono ?_
  rintro e w' ⟨rfl,rfl⟩
  go_wp2_with fail
  go_ret
  exact⟨by rw[HST.out];rfl,rfl⟩
def FG (x y:Int):Int:=if x=0 then y else x
variable {w:World} {C:Nat→Nat}
theorem DC {c g:Nat} (x y:Int) (sb:SB w C c g 3 #[.int .i64 x,.int .i64 y]):Calls Tryz.prog 176 #[.slice (some ⟨g,0,none⟩) 2 2] w fun e w'=>e= .returned (.int .i64 (FG x y))∧w=w':=by
 have hc:=sb.blk.cells
 go_enter Tryz.func176,Tryz.ntmps176
 go_wp2_with fail
 go_loop [8] (fun i=>∃ k:Nat,k≤2∧i= .int .i64 k∧Hid (1≤k→x=0)∧Hid (2≤k→y=0)) (fun i=>2 - (intOf i).toNat)
 case atStart=>exact⟨0,by omega,rfl,Lib.hid (by omega),Lib.hid (by omega)⟩
 case round=>
  obtain⟨k,hk,rfl,h1,h2⟩:=hrel
  rcases(by omega:k=0∨k=1∨k=2) with rfl | rfl | rfl
  ·by_cases hx:x=0
   ·have hq:(x !=0)=false:=by rw[hx];rfl
    have HX:=Lib.hid hx
    clear hx
    go_wp2_with fail
    go_round
    case rel=>exact⟨1,by omega,rfl,Lib.hid (fun _=>HX.out),Lib.hid (by omega)⟩
    case measure=>simp[intOf]
   ·have hq:(x !=0)=true:=bne_iff_ne.2 hx
    have HX:=Lib.hid hx
    clear hx
    go_wp2_with fail
    go_ret
    exact⟨by unfold FG;rw[if_neg HX.out];rfl,rfl⟩
  ·have HX:=Lib.hid (h1.out (by omega))
   by_cases hy:y=0
   ·have hq:(y !=0)=false:=by rw[hy];rfl
    have HY:=Lib.hid hy
    clear hy
    go_wp2_with fail
    go_round
    case rel=>exact⟨2,by omega,rfl,Lib.hid (fun _=>HX.out),Lib.hid (fun _=>HY.out)⟩
    case measure=>simp[intOf]
   ·have hq:(y !=0)=true:=bne_iff_ne.2 hy
    clear hy
    go_wp2_with fail
    go_ret
    exact⟨by unfold FG;rw[if_pos HX.out];rfl,rfl⟩
  ·have HX:=Lib.hid (h1.out (by omega))
   have HY:=Lib.hid (h2.out (by omega))
   go_wp2_with fail
   go_ret
   exact⟨by unfold FG;rw[if_pos HX.out,HY.out];rfl,rfl⟩
def uV (n1 u1 n2 u2:Int):Int:=FG (jd n1 n2) (jd u1 u2)
theorem qS (u1 n1 u2 n2:Int) (w:World):Calls Tryz.prog 141 #[.agg #[.int .i64 u1,.int .u64 n1],.agg #[.int .i64 u2,.int .u64 n2]] w fun e w'=>e= .returned (.int .i64 (uV n1 u1 n2 u2))∧Below w.heap.size w w':=by
 go_enter Tryz.func141,Tryz.ntmps141
 refine bx0 w 164 #[.int .i64 u1,.int .u64 n1] ?_;rintro C w0 e0 ag fr sb
 have z1:=sb
 revert fr sb;refine bx1 164 #[.int .i64 u2,.int .u64 n2] ?_;rintro w1 MT lp2 fr p2 sb
 go_wp2_with fail
 clear e0 MT z1
 revert fr p2 sb;refine bD ?_;intro fr p2 sb
 obtain⟨q1,q2,qi⟩:=bl sb p2
 refine aA sb p2 9 [] [0,1,2,3,5,6,7,8] [4,9,10,11,12] (by kernel_rfl) (by kernel_rfl) ?_
 refine af ?_;try simp only[ox]
 repeat(go_big_quiet_step (fail))
 refine wpQuiet_nil ?_
 refine ay rfl (fun K' hK'=> ?_);go_simp
 ((with_reducible refine(qQ n1 n2 _).mono ?_);rintro e w' ⟨rfl,rfl⟩)
 refine hK' _ _ (eJ sb p2) ?_;clear hK' K'
 refine ae _ _ _ (by kernel_rfl) ?_;try simp only[ox]
 clear qi q1 q2
 go_wp2_with fail
 refine(qR u1 u2 _).mono ?_
 rintro e w' ⟨rfl,rfl⟩
 obtain⟨x,hx⟩:∃ x,jd n1 n2=x:=⟨_,rfl⟩
 obtain⟨y,hy⟩:∃ y,jd u1 u2=y:=⟨_,rfl⟩
 rw[hx,hy]
 have HST:Hid (uV n1 u1 n2 u2=FG x y):=Lib.hid (by unfold uV;rw[hx,hy])
 clear hx hy
 have z2:=And.intro sb p2
 revert fr p2 sb;refine yI 3 #[.int .i64 x,.int .i64 y] ?_;rintro w2 xX EA fr sl p2 sb
 go_wp2_with fail
 clear xX z2
 refine(DC x y sl).mono ?_
 rintro e w' ⟨rfl,rfl⟩
 go_wp2_with fail
 refine NoPanic.normal ?_
 go_wp2_with fail
 go_ret
 exact⟨by rw[HST.out];rfl,fr.b4⟩
theorem wY {c g:Nat} (a1 m1 a2 m2:Int) (sb:SB w C c g 164 #[.int .i64 a1,.int .u64 m1,.int .i64 a2,.int .u64 m2]):Calls Tryz.prog 96 #[.slice (some ⟨g,0,none⟩) 2 2] w fun e w'=>e= .returned (.bool (decide (uV m1 a1 m2 a2<0)))∧Below w.heap.size w w':=by
 have LJ:=Lib.hid (fun W=>qS a1 m1 a2 m2 W)
 obtain⟨x,hx⟩:∃ x,uV m1 a1 m2 a2=x:=⟨_,rfl⟩
 rw[hx] at LJ⊢
 have hc:=sb.blk.cells
 have hb0:=Below.refl w.heap.size w
 clear hx
 go_enter Tryz.func96,Tryz.ntmps96
 go_wp2_with fail
 go_loopw [3] (fun i wr=>∃ k:Nat,1≤k∧k≤2∧i= .int .i64 k∧Hid (2≤k→x<0)∧Below w.heap.size w wr) (fun i _=>2 - (intOf i).toNat)
 case atStart=>exact⟨1,by omega,by omega,rfl,Lib.hid (by omega),hb0⟩
 case round=>
  obtain⟨k,hk1,hk,rfl,h1,hb⟩:=hrel
  clear hc hb0
  rcases(by omega:k=1∨k=2) with rfl | rfl
  ·have sb':=sb.step hb
   clear sb
   have sb:=sb'
   clear sb'
   have fr:Fr C (fun _=>False) [] w wr:=Fr.of_below hb _ _ _
   have ag:=aB.refl w.heap.size C
   go_wp2_with fail
   revert sb;revert fr;refine bD ?_;intro fr sb
   obtain⟨q1,qi⟩:=aV sb
   refine ar sb 9 [] [0,1,2,3,4,5,6,7,8] [9,10] (by kernel_rfl) (by kernel_rfl) ?_
   refine af ?_;try simp only[ox]
   repeat(go_big_quiet_step (fail))
   refine wpQuiet_nil ?_
   refine ae _ _ _ (by kernel_rfl) ?_;try simp only[ox]
   clear qi q1
   go_wp2_with fail
   revert fr sb;refine bk (LJ.out _) ?_;rintro e w1 rfl fr sb
   by_cases hq:x<0
   ·skip
    have dq:decide (x≥0)=false:=by simp;omega
    have HX:=Lib.hid hq
    clear hq
    go_wp2_with fail
    refine NoPanic.normal ?_
    go_wp2_with fail
    go_roundw
    case rel=>exact⟨2,by omega,by omega,rfl,Lib.hid (fun _=>HX.out),fr.b4⟩
    case measure=>simp[intOf]
   ·skip
    have dq:decide (x≥0)=true:=by simp;omega
    have HX:=Lib.hid hq
    clear hq
    go_wp2_with fail
    refine NoPanic.normal ?_
    go_wp2_with fail
    go_ret
    exact⟨by rw[decide_eq_false (by have:=HX.out;omega)];rfl,fr.b4⟩
  ·have HX:=Lib.hid (h1.out (by omega))
   go_wp2_with fail
   go_ret
   exact⟨by rw[decide_eq_true HX.out];rfl,hb⟩
structure ie (w:World) (C:Nat→Nat) (c b:Nat) (L:Ly) (h:oh):Prop where
 blk:SB w C c b 142 #[.int .i64 L.th,.int .i64 L.nd,.int .i64 h.u,.int .u64 h.no,.int .i64 h.at_,.bool h.ticket]
 no:0≤h.no∧h.no<18446744073709551616
 at_:0≤h.at_∧h.at_≤1000
def MU:List (Option TypeId):=[some 142]
variable {w':World} {C':Nat→Nat} {K:Nat→Prop} {T:List (Option TypeId)} {c b:Nat} {L:Ly}
theorem ie.mv {x:oh} (h:ie w C c b L x) (k:Fr C K T w w') (a:aB w.heap.size C C') (hk:¬ K c∨dr MU T):ie w' C' c b L x:=⟨h.blk.mv k a (hk.imp id (fun h=>h _ (by decide))),h.no,h.at_⟩
theorem ie.step {x:oh} (h:ie w C c b L x) (k:Below w.heap.size w w'):ie w' C c b L x:=h.mv (Fr.of_below k C (fun _=>False) []) (aB.refl _ _) (.inr (by decide))
theorem ie.nv {x:oh} (h:ie w C c b L x) (a:aB w.heap.size C C'):ie w C' c b L x:=h.mv (Fr.refl C (fun _=>False) [] w) a (.inr (by decide))
def FH:List (Option TypeId):=[some 142,some 75,some 34]
theorem s5:∀ x,x∈LM→x∈FH:=by decide
theorem s6:∀ x,x∈[some 142]→x∈FH:=by decide
theorem yT (L:Ly) (C:Nat→Nat) (c:Nat) (w:World):Calls Tryz.prog 60 #[L.val] w (kH C c (fun w' C' b=>ie w' C' c b L .new) w):=by
 obtain⟨th,nd⟩:=L
 go_enter Tryz.func60,Tryz.ntmps60
 go_wp2_with fail
 have hb0:Below w.heap.size w (w.alloc (.cells #[.int .i64 th,.int .i64 nd] 31)):=(Below.refl _ _).alloc (Nat.le_refl _) _
 go_ret
 exact⟨⟨w.heap.size+1,rfl,by omega,SB.new _ _ (aO C c (by omega)) _ _ (by simp),by simp[oh.new],by simp[oh.new]⟩,hb0.alloc (by simp) _⟩
structure MX (C:Nat→Nat) (c b:Nat) (L:Ly) (r:Bool) (h:oh) (w:World) (e:Ending) (w':World):Prop where
 ret:e= .returned (.bool r)
 own:ie w' C c b L h
 fr:Fr C (K0 c) [some 142] w w'
theorem nV {h:oh} (hh:ie w C c b L h) (hat:h.at_≤100):Calls Tryz.prog 94 #[.pointer (some ⟨b,0,none⟩)] w (MX C c b L (decide (L.th≤h.at_+1)) { h with at_:=h.at_+1,ticket:=false } w):=by
 obtain⟨u,no,at_,ticket⟩:=h
 obtain⟨sb,hno,gN⟩:=hh
 simp only at sb hno hat gN
 have e6:wrap64 (at_+1)=at_+1:=IntWalk.wrap64_in _ (by omega)
 go_enter Tryz.func94,Tryz.ntmps94
 have fr:=Fr.refl C (K0 c) [some 142] w
 have ag:=aB.refl w.heap.size C
 have z1:=sb
 revert fr;refine Jv w C ?_;refine st1 sb 4 (.int .i64 (at_+1)) (fun _ h=>h) ag ?_;clear sb;rintro w1 e1 fr sb -
 simp only[sx] at sb
 have z2:=sb
 revert fr;refine Jv w1 C ?_;refine st1 sb 5 (.bool false) (fun _ h=>h) ag ?_;clear sb;rintro w2 e2 fr sb -
 simp only[sx] at sb
 go_wp2_with fail
 clear z1 e1 z2 e2
 revert fr sb;refine bD ?_;intro fr sb
 obtain⟨q1,qi⟩:=aV sb
 refine ar sb 10 [] [0,1,2,3,4,5,6,7,8,9] [10] (by kernel_rfl) (by kernel_rfl) ?_
 refine af ?_;try simp only[ox]
 repeat(go_big_quiet_step (fail))
 refine wpQuiet_nil ?_
 refine ae _ _ _ (by kernel_rfl) ?_;try simp only[ox]
 clear qi q1
 go_wp2_with fail
 refine NoPanic.normal ?_
 go_wp2_with fail
 go_ret
 exact⟨rfl,⟨sb,hno,by simp only;omega⟩,fr⟩
structure JD (C:Nat→Nat) (c b:Nat) (M:ML) (r:Bool×Mm×oh) (w:World) (e:Ending) (w':World):Prop where
 ret:e= .returned (.bool r.1)
 mem:aj w' C M r.2.1
 own:ie w' C c b M.L r.2.2
 fr:Fr C (Kc c) FH w w'
variable {M:ML} {m:Mm}
theorem o5 {h:oh} (hm:aj w C M m) (hh:ie w C c b M.L h) (hat:h.at_<M.L.th) (h0:h.ticket=false) (hp:(getD' (ld M m (M.L.desc h.at_))).pend=true):Calls Tryz.prog 69 #[.pointer (some ⟨b,0,none⟩),.pointer (some ⟨M.b,0,none⟩)] w (JD C c b M (cq M m h) w):=by
 obtain⟨u,no,at_,ticket⟩:=h
 obtain⟨sb,hno,gN⟩:=hh
 simp only at sb hno hat gN h0 hp
 subst h0
 have hth:=hm.ok.th
 have cr:=bJ hm (M.L.desc at_)
 obtain⟨v,hv⟩:∃ v,ld M m (M.L.desc at_)=v:=⟨_,rfl⟩
 rw[hv] at cr hp
 have HV:=Lib.hid hv
 have HG:=fun W=>fC v W cr
 have hdf:=cX v
 obtain⟨D,hD⟩:∃ D,getD' v=D:=⟨_,rfl⟩
 rw[hD] at HG hp hdf
 have Ic:=fun W=>iS D hdf W
 simp only[hp] at Ic
 have HST:Hid (cq M m ⟨u,no,at_,false⟩=(false,m,⟨u,no,at_,true⟩)):=Lib.hid (by unfold cq;simp only;rw[if_pos trivial,hv,hD,hp];rfl)
 clear hv hD hp
 go_enter Tryz.func69,Tryz.ntmps69
 have fr:=Fr.refl C (Kc c) FH w
 have ag:=aB.refl w.heap.size C
 go_wp2_with fail
 revert hm;revert sb;revert fr;refine bD ?_;intro fr sb hm
 obtain⟨q1,qi⟩:=aV sb
 refine ar sb 10 [] [0,1,2,3,4,5,6,7,8,9] [10,11,12,13,14,15,16] (by kernel_rfl) (by kernel_rfl) ?_
 refine af ?_;try simp only[ox]
 repeat(go_big_quiet_step (fail))
 refine wpQuiet_nil ?_
 refine ae _ _ _ (by kernel_rfl) ?_;try simp only[ox]
 clear qi q1
 go_wp2_with fail
 refine(cC M.L hm.ok at_ (by omega) _).mono ?_;rintro e w1 ⟨rfl,hb1⟩
 revert fr sb hm;refine dX hb1 ?_;intro fr sb hm
 go_wp2_with fail
 refine(aP hm (M.L.desc at_)).mono ?_;clear hm;rintro e w2 ⟨rfl,hm,hf⟩
 rw[HV.out]
 revert fr sb;refine dS hf (aS c) s5 ag ?_;clear hf;intro fr sb
 go_wp2_with fail
 revert hm sb;revert fr;refine bk (HG _) ?_;rintro e w3 rfl fr hm sb
 go_wp2_with fail
 revert fr hm sb;refine bk (Ic _) ?_;rintro e w4 rfl fr hm sb
 have z1:=sb
 revert fr hm;refine st1 sb 5 (.bool true) (aL c) ag ?_;clear sb;rintro w5 e1 fr sb hm
 simp only[sx] at sb
 go_wp2_with fail
 refine NoPanic.normal ?_
 go_wp2_with fail
 clear z1 e1
 go_ret
 exact⟨by rw[HST.out];rfl,by rw[HST.out];exact hm,by rw[HST.out];exact⟨sb,hno,gN⟩,fr⟩
theorem nO {h:oh} (hm:aj w C M m) (hh:ie w C c b M.L h) (hat:h.at_<M.L.th) (h0:h.ticket=false) (hp:(getD' (ld M m (M.L.desc h.at_))).pend=false):Calls Tryz.prog 69 #[.pointer (some ⟨b,0,none⟩),.pointer (some ⟨M.b,0,none⟩)] w (JD C c b M (cq M m h) w):=by
 obtain⟨u,no,at_,ticket⟩:=h
 obtain⟨sb,hno,gN⟩:=hh
 simp only at sb hno hat gN h0 hp
 subst h0
 have hth:=hm.ok.th
 have cr:=bJ hm (M.L.desc at_)
 obtain⟨v,hv⟩:∃ v,ld M m (M.L.desc at_)=v:=⟨_,rfl⟩
 rw[hv] at cr hp
 have HV:=Lib.hid hv
 have HG:=fun W=>fC v W cr
 have hdf:=cX v
 obtain⟨D,hD⟩:∃ D,getD' v=D:=⟨_,rfl⟩
 rw[hD] at HG hp hdf
 have Ic:=fun W=>iS D hdf W
 simp only[hp] at Ic
 have HST:Hid (cq M m ⟨u,no,at_,false⟩=(decide (M.L.th≤at_+1),m,⟨u,no,at_+1,false⟩)):=Lib.hid (by unfold cq;simp only;rw[if_pos trivial,hv,hD,hp];rfl)
 clear hv hD hp
 go_enter Tryz.func69,Tryz.ntmps69
 have fr:=Fr.refl C (Kc c) FH w
 have ag:=aB.refl w.heap.size C
 go_wp2_with fail
 revert hm;revert sb;revert fr;refine bD ?_;intro fr sb hm
 obtain⟨q1,qi⟩:=aV sb
 refine ar sb 10 [] [0,1,2,3,4,5,6,7,8,9] [10,11,12,13,14,15,16] (by kernel_rfl) (by kernel_rfl) ?_
 refine af ?_;try simp only[ox]
 repeat(go_big_quiet_step (fail))
 refine wpQuiet_nil ?_
 refine ae _ _ _ (by kernel_rfl) ?_;try simp only[ox]
 clear qi q1
 go_wp2_with fail
 refine(cC M.L hm.ok at_ (by omega) _).mono ?_;rintro e w1 ⟨rfl,hb1⟩
 revert fr sb hm;refine dX hb1 ?_;intro fr sb hm
 go_wp2_with fail
 refine(aP hm (M.L.desc at_)).mono ?_;clear hm;rintro e w2 ⟨rfl,hm,hf⟩
 rw[HV.out]
 revert fr sb;refine dS hf (aS c) s5 ag ?_;clear hf;intro fr sb
 go_wp2_with fail
 revert hm sb;revert fr;refine bk (HG _) ?_;rintro e w3 rfl fr hm sb
 go_wp2_with fail
 revert fr hm sb;refine bk (Ic _) ?_;rintro e w4 rfl fr hm sb
 have z1:=sb
 revert fr hm;refine st1 sb 5 (.bool false) (aL c) ag ?_;clear sb;rintro w5 e1 fr sb hm
 simp only[sx] at sb
 go_wp2_with fail
 refine NoPanic.normal ?_
 go_wp2_with fail
 clear z1 e1
 refine(nV (h:=⟨u,no,at_,false⟩) ⟨sb,hno,gN⟩ (by simp only;omega)).mono ?_
 rintro e w9 ⟨rfl,own,hf⟩
 replace fr:=fr.trans (hf.mono (aL c) s6) ag
 replace hm:=hm.fr hf (.inr ⟨by decide,by decide⟩)
 go_wp2_with fail
 go_ret
 exact⟨by rw[HST.out];rfl,by rw[HST.out];exact hm,by rw[HST.out];exact own,fr⟩
theorem yU (n1 u1 n2 u2:Int):decide (uV n1 u1 n2 u2<0)=ahead n1 u1 n2 u2:=by
 have h:uV n1 u1 n2 u2<0↔(n1<n2∨(n1=n2∧u1<u2)):=by
  unfold uV FG jd
  split<;>split at * <;>(try split at *)<;>(try split)<;>(try split)<;>omega
 unfold ahead
 exact decide_eq_decide.2 h
def jt (b Mb:Nat) (th nd at_:Int) (v5 v49 v50 v51:Value):Act:={ tmps:= #[.pointer (some ⟨b,0,none⟩),.pointer (some ⟨Mb,0,none⟩),undef,undef,.bool false,v5,.pointer (some ⟨b,0,none⟩),.pointer (some ⟨b,0,none⟩),.pointer (some ⟨b,5,none⟩),.bool true,.bool false,undef,undef,undef,undef,undef,undef,undef,undef,undef,undef,undef,undef,undef,undef,undef,undef,undef,undef,undef,undef,undef,undef,undef,undef,undef,.pointer (some ⟨b,0,none⟩),.pointer (some ⟨b,0,none⟩),.pointer (some ⟨b,4,none⟩),.int .i64 at_,.pointer (some ⟨Mb,0,none⟩),.pointer (some ⟨b,0,none⟩),.pointer (some ⟨b,0,none⟩),.pointer (some ⟨b,0,none⟩),.agg #[.int .i64 th,.int .i64 nd],.pointer (some ⟨b,0,none⟩),.pointer (some ⟨b,0,none⟩),.pointer (some ⟨b,4,none⟩),.int .i64 at_,v49,v50,v51,undef,undef,undef,undef,undef,undef,undef,undef,undef,undef,undef,undef,undef,undef,undef,undef,undef,undef,undef,undef,undef,undef,undef,undef,undef,undef,undef,undef,undef,undef,undef],defers:=[] }
def Ie (c:Nat) (d:Bool):Array Bool:= #[true,true,true,true,true,true,true,true,true,true,true,true,true,decide (1≤c),decide (2≤c),decide (3≤c),d,false]
structure MY (C:Nat→Nat) (c0 b:Nat) (M:ML) (m:Mm) (u no at_:Int) (tk n:Int) (w:World) (r:Nat) (L:Array Bool) (a:Act) (W:World) (c:Nat) (d:Bool) (g:Nat) (v5 v49 v50 v51:Value):Prop where
 hc:c≤3
 hr:r+c+d.toNat=4
 hL:L=Ie c d
 ha:a=jt b M.b M.L.th M.L.nd at_ v5 v49 v50 v51
 sb:SB W C c0 b 142 #[.int .i64 M.L.th,.int .i64 M.L.nd,.int .i64 u,.int .u64 no,.int .i64 at_,.bool true]
 hm:aj W C M m
 fr:Fr C (Kc c0) FH w W
 e49:v49=if c=0 then undef else .int .i64 tk
 e50:v50=if 2≤c then .int .u64 n else undef
 e51:v51=if c=3 then .agg #[.int .i64 at_,.int .u64 n] else undef
 e5:v5=if d then .pointer (some ⟨g,0,none⟩) else undef
 b5:d=true→w.heap.size≤g∧SB W C (C g) g 164 #[.int .i64 0,.int .u64 0]
theorem mN {h:oh} (hm:aj w C M m) (hh:ie w C c b M.L h) (hat:h.at_<M.L.th) (h0:h.ticket=true):Calls Tryz.prog 69 #[.pointer (some ⟨b,0,none⟩),.pointer (some ⟨M.b,0,none⟩)] w (JD C c b M (cq M m h) w):=by
 obtain⟨u,no,at_,ticket⟩:=h
 obtain⟨sb,hno,gN⟩:=hh
 simp only at sb hno hat gN h0
 subst h0
 have hth:=hm.ok.th
 have cr:=bJ hm (M.L.ticket at_)
 obtain⟨n,hv⟩:∃ n,ld M m (M.L.ticket at_)=n:=⟨_,rfl⟩
 rw[hv] at cr
 have HV:=Lib.hid hv
 have Kq:=fun W=>kG M.L hm.ok at_ (by omega) W
 have Ep:=fun W (k:aj W C M m)=>aP k (M.L.ticket at_)
 simp only[hv] at Ep
 obtain⟨tk,htk⟩:∃ tk,M.L.ticket at_=tk:=⟨_,rfl⟩
 simp only[htk] at Kq Ep
 clear hv htk
 go_enter Tryz.func69,Tryz.ntmps69
 have hc:=sb.blk.cells
 go_wp2_with fail
 clear hc
 refine kA (fun w'=>∃ q:Such (S1 b #[.int .i64 M.L.th,.int .i64 M.L.nd,.int .i64 u,.int .u64 no,.int .i64 at_,.bool true]),w'=q.val) 17 [0,1,2,3,4,5,6,7,8,9,10,11,12] 4 [17] (fun r L a W=>∃ c0 d g v5 v49 v50 v51,MY C c b M m u no at_ tk n w r L a W c0 d g v5 v49 v50 v51) (by kernel_rfl) (by kernel_rfl) (Such.bI (S:=S1 b #[.int .i64 M.L.th,.int .i64 M.L.nd,.int .i64 u,.int .u64 no,.int .i64 at_,.bool true]) sb.drew.blk.cells) ?_ ?_ ?_
 ·have q1:∀ (q:Such (S1 b #[.int .i64 M.L.th,.int .i64 M.L.nd,.int .i64 u,.int .u64 no,.int .i64 at_,.bool true])) (i:Nat),q.val.cell? ⟨b,i,none⟩=(#[.int .i64 M.L.th,.int .i64 M.L.nd,.int .i64 u,.int .u64 no,.int .i64 at_,.bool true])[i]? :=oq
  haveI qi:Nonempty (Such (S1 b #[.int .i64 M.L.th,.int .i64 M.L.nd,.int .i64 u,.int .u64 no,.int .i64 at_,.bool true])):=Such.q8 sb.blk.cells
  simp only[au,List.map_cons,List.map_nil,List.getD_cons_zero,List.getD_cons_succ]
  repeat(go_big_quiet_step (fail))
  refine wpQuiet_nil ?_
  exact⟨0,false,0,undef,undef,undef,undef,by omega,rfl,by kernel_rfl,rfl,sb.drew,hm.drew,(Fr.refl _ _ _ _).drew,rfl,rfl,rfl,rfl,(fun h=>by cases h)⟩
 ·rintro r L a W ⟨c0,d,g,v5,v49,v50,v51,hI⟩
  have Kl:=hI.hc
  have Cu:=hI.hr
  have hsW:=hI.sb
  have hmW:=hI.hm
  have x5:=hI.fr
  have hb5:=hI.b5
  obtain⟨-,-,rfl,rfl,-,-,-,rfl,rfl,rfl,rfl,-⟩:=hI
  rcases(by omega:c0=0∨c0=1∨c0=2∨c0=3) with rfl | rfl | rfl | rfl<;>cases d<;>simp only[Bool.toNat_true,Bool.toNat_false] at Cu
  ·have hr:r=3:=by omega
   subst hr
   refine bQ (R':=[13,16]) (by kernel_rfl) (by decide) ?_
   intro i hi
   simp only[List.mem_cons,List.not_mem_nil,or_false] at hi
   rcases hi with rfl | rfl
   ·refine bo rfl (fun K' hK'=> ?_)
    simp only[jt,if_true]
    go_simp
    refine(Kq _).mono ?_
    rintro e W2 ⟨rfl,hb⟩
    exact hK' _ _ ⟨Such.bI (S:=S1 b #[.int .i64 M.L.th,.int .i64 M.L.nd,.int .i64 u,.int .u64 no,.int .i64 at_,.bool true]) (hsW.step hb).blk.cells,1,false,g,_,_,_,_,by omega,by rfl,by kernel_rfl,by kernel_rfl,hsW.step hb,hmW.step hb,x5.step hb,rfl,rfl,rfl,rfl,fun e=>⟨(hb5 e).1,(hb5 e).2.step hb⟩⟩
   ·refine bo rfl (fun K' hK'=> ?_)
    simp only[jt,if_true]
    go_simp
    have hb:Below W.heap.size W (W.alloc (.cells #[.int .i64 0,.int .u64 0] 164)):=(Below.refl _ _).alloc (Nat.le_refl _) _
    exact hK' _ _ ⟨Such.bI (S:=S1 b #[.int .i64 M.L.th,.int .i64 M.L.nd,.int .i64 u,.int .u64 no,.int .i64 at_,.bool true]) (hsW.step hb).blk.cells,0,true,W.heap.size,_,_,_,_,by omega,by rfl,by kernel_rfl,by kernel_rfl,hsW.step hb,hmW.step hb,x5.step hb,rfl,rfl,rfl,rfl,fun _=>⟨x5.size,SB.new W C rfl _ _ rfl⟩⟩
  ·have hr:r=2:=by omega
   subst hr
   refine bQ (R':=[13]) (by kernel_rfl) (by decide) ?_
   intro i hi
   simp only[List.mem_cons,List.not_mem_nil,or_false] at hi
   rcases hi with rfl
   ·refine bo rfl (fun K' hK'=> ?_)
    simp only[jt,if_true]
    go_simp
    refine(Kq _).mono ?_
    rintro e W2 ⟨rfl,hb⟩
    exact hK' _ _ ⟨Such.bI (S:=S1 b #[.int .i64 M.L.th,.int .i64 M.L.nd,.int .i64 u,.int .u64 no,.int .i64 at_,.bool true]) (hsW.step hb).blk.cells,1,true,g,_,_,_,_,by omega,by rfl,by kernel_rfl,by kernel_rfl,hsW.step hb,hmW.step hb,x5.step hb,rfl,rfl,rfl,rfl,fun e=>⟨(hb5 e).1,(hb5 e).2.step hb⟩⟩
  ·have hr:r=2:=by omega
   subst hr
   refine bQ (R':=[14,16]) (by kernel_rfl) (by decide) ?_
   intro i hi
   simp only[List.mem_cons,List.not_mem_nil,or_false] at hi
   rcases hi with rfl | rfl
   ·refine bo rfl (fun K' hK'=> ?_)
    simp only[jt]
    go_simp
    refine(Ep _ hmW).mono ?_
    rintro e W2 ⟨rfl,hm2,hf2⟩
    have hs2:=hsW.fr hf2 (.inr (by decide))
    exact hK' _ _ ⟨Such.bI (S:=S1 b #[.int .i64 M.L.th,.int .i64 M.L.nd,.int .i64 u,.int .u64 no,.int .i64 at_,.bool true]) hs2.blk.cells,2,false,g,_,_,_,_,by omega,by rfl,by kernel_rfl,by kernel_rfl,hs2,hm2,x5.eX (hf2.mono (aS c) s5),rfl,rfl,rfl,rfl,fun e=>⟨(hb5 e).1,(hb5 e).2.fr hf2 (.inr (by decide))⟩⟩
   ·refine bo rfl (fun K' hK'=> ?_)
    simp only[jt]
    go_simp
    have hb:Below W.heap.size W (W.alloc (.cells #[.int .i64 0,.int .u64 0] 164)):=(Below.refl _ _).alloc (Nat.le_refl _) _
    exact hK' _ _ ⟨Such.bI (S:=S1 b #[.int .i64 M.L.th,.int .i64 M.L.nd,.int .i64 u,.int .u64 no,.int .i64 at_,.bool true]) (hsW.step hb).blk.cells,1,true,W.heap.size,_,_,_,_,by omega,by rfl,by kernel_rfl,by kernel_rfl,hsW.step hb,hmW.step hb,x5.step hb,rfl,rfl,rfl,rfl,fun _=>⟨x5.size,SB.new W C rfl _ _ rfl⟩⟩
  ·have hr:r=1:=by omega
   subst hr
   refine bQ (R':=[14]) (by kernel_rfl) (by decide) ?_
   intro i hi
   simp only[List.mem_cons,List.not_mem_nil,or_false] at hi
   rcases hi with rfl
   ·refine bo rfl (fun K' hK'=> ?_)
    simp only[jt,if_true]
    go_simp
    refine(Ep _ hmW).mono ?_
    rintro e W2 ⟨rfl,hm2,hf2⟩
    have hs2:=hsW.fr hf2 (.inr (by decide))
    exact hK' _ _ ⟨Such.bI (S:=S1 b #[.int .i64 M.L.th,.int .i64 M.L.nd,.int .i64 u,.int .u64 no,.int .i64 at_,.bool true]) hs2.blk.cells,2,true,g,_,_,_,_,by omega,by rfl,by kernel_rfl,by kernel_rfl,hs2,hm2,x5.eX (hf2.mono (aS c) s5),rfl,rfl,rfl,rfl,fun e=>⟨(hb5 e).1,(hb5 e).2.fr hf2 (.inr (by decide))⟩⟩
  ·have hr:r=1:=by omega
   subst hr
   refine bQ (R':=[15,16]) (by kernel_rfl) (by decide) ?_
   intro i hi
   simp only[List.mem_cons,List.not_mem_nil,or_false] at hi
   rcases hi with rfl | rfl
   ·refine bo rfl (fun K' hK'=> ?_)
    simp only[jt]
    go_simp
    exact hK' _ _ ⟨Such.bI (S:=S1 b #[.int .i64 M.L.th,.int .i64 M.L.nd,.int .i64 u,.int .u64 no,.int .i64 at_,.bool true]) hsW.blk.cells,3,false,g,_,_,_,_,by omega,by rfl,by kernel_rfl,by kernel_rfl,hsW,hmW,x5,rfl,rfl,rfl,rfl,hb5⟩
   ·refine bo rfl (fun K' hK'=> ?_)
    simp only[jt]
    go_simp
    have hb:Below W.heap.size W (W.alloc (.cells #[.int .i64 0,.int .u64 0] 164)):=(Below.refl _ _).alloc (Nat.le_refl _) _
    exact hK' _ _ ⟨Such.bI (S:=S1 b #[.int .i64 M.L.th,.int .i64 M.L.nd,.int .i64 u,.int .u64 no,.int .i64 at_,.bool true]) (hsW.step hb).blk.cells,2,true,W.heap.size,_,_,_,_,by omega,by rfl,by kernel_rfl,by kernel_rfl,hsW.step hb,hmW.step hb,x5.step hb,rfl,rfl,rfl,rfl,fun _=>⟨x5.size,SB.new W C rfl _ _ rfl⟩⟩
  ·have hr:r=0:=by omega
   subst hr
   refine bQ (R':=[15]) (by kernel_rfl) (by decide) ?_
   intro i hi
   simp only[List.mem_cons,List.not_mem_nil,or_false] at hi
   rcases hi with rfl
   ·refine bo rfl (fun K' hK'=> ?_)
    simp only[jt,if_true]
    go_simp
    exact hK' _ _ ⟨Such.bI (S:=S1 b #[.int .i64 M.L.th,.int .i64 M.L.nd,.int .i64 u,.int .u64 no,.int .i64 at_,.bool true]) hsW.blk.cells,3,true,g,_,_,_,_,by omega,by rfl,by kernel_rfl,by kernel_rfl,hsW,hmW,x5,rfl,rfl,rfl,rfl,hb5⟩
  ·have hr:r=0:=by omega
   subst hr
   refine bQ (R':=[16]) (by kernel_rfl) (by decide) ?_
   intro i hi
   simp only[List.mem_cons,List.not_mem_nil,or_false] at hi
   rcases hi with rfl
   ·refine bo rfl (fun K' hK'=> ?_)
    simp only[jt,if_true]
    go_simp
    have hb:Below W.heap.size W (W.alloc (.cells #[.int .i64 0,.int .u64 0] 164)):=(Below.refl _ _).alloc (Nat.le_refl _) _
    exact hK' _ _ ⟨Such.bI (S:=S1 b #[.int .i64 M.L.th,.int .i64 M.L.nd,.int .i64 u,.int .u64 no,.int .i64 at_,.bool true]) (hsW.step hb).blk.cells,3,true,W.heap.size,_,_,_,_,by omega,by rfl,by kernel_rfl,by kernel_rfl,hsW.step hb,hmW.step hb,x5.step hb,rfl,rfl,rfl,rfl,fun _=>⟨x5.size,SB.new W C rfl _ _ rfl⟩⟩
  ·omega
 ·rintro L a W ⟨c0,d,g,v5,v49,v50,v51,hI⟩
  have Cu:=hI.hr
  have Kl:=hI.hc
  have h5:d=true:=by cases d<;>simp only[Bool.toNat_true,Bool.toNat_false] at Cu<;>first | rfl | omega
  subst h5
  have h2:c0=3:=by simp only[Bool.toNat_true] at Cu;omega
  subst h2
  obtain⟨hg5,nd⟩:=hI.b5 rfl
  clear sb hm
  have sb:=hI.sb
  have hm:=hI.hm
  have fr:=hI.fr
  obtain⟨-,-,rfl,rfl,-,-,-,rfl,rfl,rfl,rfl,-⟩:=hI
  have ag:=aB.refl w.heap.size C
  refine⟨by kernel_rfl,?_⟩
  refine ae _ _ _ (by kernel_rfl) ?_
  try simp only[au,List.map_cons,List.map_nil,List.getD_cons_zero,List.getD_cons_succ]
  simp only[jt,if_true]
  have z1:=And.intro sb nd
  revert hm;revert sb;revert fr;refine vX nd 0 (.int .i64 at_) ?_;clear nd;rintro w1 e1 fr nd sb hm
  simp only[sx] at nd
  have z2:=And.intro sb nd
  revert fr sb hm;refine vX nd 1 (.int .u64 n) ?_;clear nd;rintro w2 e2 fr nd sb hm
  simp only[sx] at nd
  go_wp2_with fail
  clear z1 e1 z2 e2
  refine NoPanic.normal ?_
  go_wp2_with fail
  by_cases hu0:u<0
  ·skip
   have d1:decide (u<0)=true:=decide_eq_true hu0
   have HST:Hid (cq M m ⟨u,no,at_,true⟩=(decide (M.L.th≤at_+1),m,⟨at_,n,at_+1,false⟩)):=Lib.hid (by unfold cq;simp only;rw[if_neg (by simp),HV.out,d1];rfl)
   clear hu0
   revert fr sb hm nd;refine bD ?_;intro fr sb hm nd
   obtain⟨q1,q2,qi⟩:=bl sb nd
   refine aA sb nd 16 [] [0,1,2,3,4,5,6,7,8,9,10,11,12,13,14,15] [16,17,18] (by kernel_rfl) (by kernel_rfl) ?_
   refine af ?_;try simp only[ox]
   repeat(go_big_quiet_step (fail))
   refine wpQuiet_nil ?_
   refine ae _ _ _ (by kernel_rfl) ?_;try simp only[ox]
   clear qi q1 q2
   go_wp2_with fail
   refine NoPanic.normal ?_
   go_wp2_with fail
   generalize w2.drew=w3 at *
   revert nd;revert hm;revert sb;revert fr;refine bD ?_;intro fr sb hm nd
   obtain⟨q1,qi⟩:=aV nd
   refine ar nd 11 [([0,1,2,3,4,5,6,7],8)] [9,10] [11] (by kernel_rfl) (by kernel_rfl) ?_
   refine ai ?_;simp only[ox];repeat(go_big_quiet_step (fail))
   refine di rfl (fun K' hK'=> ?_);go_simp
   revert fr hm nd;refine kT sb 2 (.int .i64 at_) (aL c) ag ?_;clear sb;rintro w4 e1 fr sb hm nd;rw[e1];simp only[sx] at sb
   refine hK' _ _ (bZ nd) ?_;clear hK' K' e1
   refine af ?_;try simp only[ox]
   repeat(go_big_quiet_step (fail))
   refine wpQuiet_nil ?_
   refine ae _ _ _ (by kernel_rfl) ?_;try simp only[ox]
   clear qi q1
   have z3:=And.intro sb nd
   revert fr hm nd;refine st1 sb 3 (.int .u64 n) (aL c) ag ?_;clear sb;rintro w5 e1 fr sb hm nd
   simp only[sx] at sb
   go_wp2_with fail
   refine NoPanic.normal ?_
   go_wp2_with fail
   clear z3 e1
   refine(nV (h:=⟨at_,n,at_,true⟩) ⟨sb,cr,gN⟩ (by simp only;omega)).mono ?_
   rintro e w9 ⟨rfl,own,hf⟩
   replace fr:=fr.trans (hf.mono (aL c) s6) ag
   replace hm:=hm.fr hf (.inr ⟨by decide,by decide⟩)
   go_wp2_with fail
   go_ret
   exact⟨by rw[HST.out];rfl,by rw[HST.out];exact hm,by rw[HST.out];exact own,fr⟩
  ·skip
   have d1:decide (u<0)=false:=decide_eq_false hu0
   obtain⟨q,hq⟩:∃ q,ahead n at_ no u=q:=⟨_,rfl⟩
   have LK:=fun (W:World) (g' c':Nat) (C':Nat→Nat) (k:SB W C' c' g' 164 #[.int .i64 at_,.int .u64 n,.int .i64 u,.int .u64 no])=>wY at_ n u no k
   simp only[yU,hq] at LK
   have HST:Hid (cq M m ⟨u,no,at_,true⟩=(decide (M.L.th≤at_+1),m,⟨if q then at_ else u,if q then n else no,at_+1,false⟩)):=Lib.hid (by unfold cq;simp only;rw[if_neg (by simp),HV.out,d1,hq];rfl)
   clear hu0 hq
   revert fr sb hm nd;refine bD ?_;intro fr sb hm nd
   obtain⟨q1,q2,qi⟩:=bl sb nd
   refine aA sb nd 16 [] [0,1,2,3,4,5,6,7,8,9,10,11,12,13,14,15] [16,17,18] (by kernel_rfl) (by kernel_rfl) ?_
   refine af ?_;try simp only[ox]
   repeat(go_big_quiet_step (fail))
   refine wpQuiet_nil ?_
   refine ae _ _ _ (by kernel_rfl) ?_;try simp only[ox]
   clear qi q1 q2
   have z3:=And.intro sb nd
   revert fr sb hm nd;refine yI 164 #[.int .i64 at_,.int .u64 n,.int .i64 u,.int .u64 no] ?_;rintro w3 xX EA fr sl sb hm nd
   go_wp2_with fail
   clear xX z3
   refine(LK _ _ _ _ sl).mono ?_;rintro e w4 ⟨rfl,hb4⟩
   revert fr sl sb hm nd;refine dX hb4 ?_;intro fr sl sb hm nd
   cases q
   ·skip
    go_wp2_with fail
    refine NoPanic.normal ?_
    go_wp2_with fail
    refine(nV (h:=⟨u,no,at_,true⟩) ⟨sb,hno,gN⟩ (by simp only;omega)).mono ?_
    rintro e w9 ⟨rfl,own,hf⟩
    replace fr:=fr.trans (hf.mono (aL c) s6) ag
    replace hm:=hm.fr hf (.inr ⟨by decide,by decide⟩)
    go_wp2_with fail
    go_ret
    exact⟨by rw[HST.out];rfl,by rw[HST.out];exact hm,by rw[HST.out];exact own,fr⟩
   ·skip
    go_wp2_with fail
    refine NoPanic.normal ?_
    go_wp2_with fail
    revert sl;revert nd;revert hm;revert sb;revert fr;refine bD ?_;intro fr sb hm nd sl
    obtain⟨q1,qi⟩:=aV nd
    refine ar nd 11 [([0,1,2,3,4,5,6,7],8)] [9,10] [11] (by kernel_rfl) (by kernel_rfl) ?_
    refine ai ?_;simp only[ox];repeat(go_big_quiet_step (fail))
    refine di rfl (fun K' hK'=> ?_);go_simp
    revert fr hm nd sl;refine kT sb 2 (.int .i64 at_) (aL c) ag ?_;clear sb;rintro w5 e1 fr sb hm nd sl;rw[e1];simp only[sx] at sb
    refine hK' _ _ (bZ nd) ?_;clear hK' K' e1
    refine af ?_;try simp only[ox]
    repeat(go_big_quiet_step (fail))
    refine wpQuiet_nil ?_
    refine ae _ _ _ (by kernel_rfl) ?_;try simp only[ox]
    clear qi q1
    have z4:=And.intro sb (And.intro nd sl)
    revert fr hm nd sl;refine st1 sb 3 (.int .u64 n) (aL c) ag ?_;clear sb;rintro w6 e1 fr sb hm nd sl
    simp only[sx] at sb
    go_wp2_with fail
    refine NoPanic.normal ?_
    go_wp2_with fail
    clear z4 e1
    refine(nV (h:=⟨at_,n,at_,true⟩) ⟨sb,cr,gN⟩ (by simp only;omega)).mono ?_
    rintro e w9 ⟨rfl,own,hf⟩
    replace fr:=fr.trans (hf.mono (aL c) s6) ag
    replace hm:=hm.fr hf (.inr ⟨by decide,by decide⟩)
    go_wp2_with fail
    go_ret
    exact⟨by rw[HST.out];rfl,by rw[HST.out];exact hm,by rw[HST.out];exact own,fr⟩
theorem yV {h:oh} (hm:aj w C M m) (hh:ie w C c b M.L h) (hat:h.at_<M.L.th):Calls Tryz.prog 69 #[.pointer (some ⟨b,0,none⟩),.pointer (some ⟨M.b,0,none⟩)] w (JD C c b M (cq M m h) w):=by
 cases h0:h.ticket with
 | true=>exact mN hm hh hat h0
 | false=>
  cases hp:(getD' (ld M m (M.L.desc h.at_))).pend with
  | true=>exact o5 hm hh hat h0 hp
  | false=>exact nO hm hh hat h0 hp
structure kp (w:World) (C:Nat→Nat) (c b:Nat) (L:Ly) (me:Int) (a:kO):Prop where
 blk:SB w C c b 147 #[.int .i64 L.th,.int .i64 L.nd,.int .u64 a.no,.int .i64 me,.int .i64 a.at_,.int .u64 a.bits,.bool false,.int .u64 a.found]
 no:0≤a.no∧a.no<18446744073709551616
 bits:0≤a.bits∧a.bits<18446744073709551616
 found:0≤a.found∧a.found<18446744073709551616
 me:0≤me∧me≤7
def LL:List (Option TypeId):=[some 147]
variable {me:Int}
theorem kp.mv {x:kO} (h:kp w C c b L me x) (k:Fr C K T w w') (a:aB w.heap.size C C') (hk:¬ K c∨dr LL T):kp w' C' c b L me x:=⟨h.blk.mv k a (hk.imp id (fun h=>h _ (by decide))),h.no,h.bits,h.found,h.me⟩
instance {w:World} {C:Nat→Nat} {c b:Nat} {L:Ly} {me:Int} {x:kO}:Mv (kp w C c b L me x) w C LL (fun w' C'=>kp w' C' c b L me x):=⟨fun h k a hk=>h.mv k a (.inr hk)⟩
def EB:List (Option TypeId):=[some 147,some 75,some 34]
theorem o6:∀ x,x∈LM→x∈EB:=by decide
structure AnW (C:Nat→Nat) (c b:Nat) (M:ML) (me:Int) (r:Bool×Mm×kO) (w:World) (e:Ending) (w':World):Prop where
 ret:e= .returned (.bool r.1)
 mem:aj w' C M r.2.1
 own:kp w' C c b M.L me r.2.2
 fr:Fr C (Kc c) EB w w'
theorem bq.lq {t:bq} (h:t.may=true):0≤t.num∧t.num<18446744073709551616:=by
 obtain⟨h1,h2,h3⟩:=bq.rng h
 unfold bq.num;omega
theorem wZ (L:Ly) (me:Int) (t:bq) (hmay:t.may=true) (hme:0≤me∧me≤7) (C:Nat→Nat) (c:Nat) (w:World):Calls Tryz.prog 121 #[L.val,.int .i64 me,t.val] w (kH C c (fun w' C' b=>kp w' C' c b L me (.new t)) w):=by
 have HP:∀ W,Calls Tryz.prog 167 #[t.val] W fun e w'=>e= .returned (.tuple #[.int .u64 t.num,.int .i64 0])∧Below W.heap.size W w':=fun W=>(Ay t W).mono fun e w' h=>⟨h.1.trans (by rw[hmay];rfl),h.2⟩
 have hnr:=bq.lq hmay
 have HST:Hid (kO.new t=⟨0,0,t.num,0⟩):=Lib.hid rfl
 obtain⟨x,hx⟩:∃ x,t.num=x:=⟨_,rfl⟩
 rw[hx] at HP hnr HST
 obtain⟨th,nd⟩:=L
 obtain⟨sh,kind,key⟩:=t
 clear hx hmay
 go_enter Tryz.func121,Tryz.ntmps121
 refine Lx C w 31 #[.int .i64 th,.int .i64 nd] ?_;rintro w0 e0 ag fr sb
 have z1:=sb
 revert fr sb;refine bx1 85 #[.int .i64 sh,.int .i64 kind,.int .i64 key] ?_;rintro w1 etk Nz fr tk sb
 go_wp2_with fail
 clear e0 etk z1
 revert fr tk sb;refine bk (HP _) ?_;rintro e w2 rfl fr tk sb
 go_wp2_with fail
 go_ret
 have hbw:=fr.b4
 exact⟨⟨w2.heap.size,rfl,hbw.size,by rw[HST.out];exact⟨SB.new _ _ (aO C c hbw.size) _ _ rfl,by simp,hnr,by simp,hme⟩⟩,hbw.alloc hbw.size _⟩
theorem o7 {a:kO} (hm:aj w C M m) (h:kp w C c b M.L me a) (h0:a.at_=0):Calls Tryz.prog 77 #[.pointer (some ⟨b,0,none⟩),.pointer (some ⟨M.b,0,none⟩)] w (AnW C c b M me (aW M me m a) w):=by
 obtain⟨no,at_,bits,found⟩:=a
 obtain⟨sb,hno,hbt,hfd,hme⟩:=h
 simp only at sb hno hbt hfd h0
 subst h0
 have HST:Hid (aW M me m (⟨no,0,bits,found⟩:kO)=(false,Proofs.YtbcnnhlpilmmbaaGreat.st M m (M.L.task me) bits,(⟨no,1,bits,found⟩:kO))):=Lib.hid (by unfold aW;simp only;rw[if_pos (by decide)])
 go_enter Tryz.func77,Tryz.ntmps77
 have fr:=Fr.refl C (Kc c) EB w
 have ag:=aB.refl w.heap.size C
 go_wp2_with fail
 revert hm;revert sb;revert fr;refine bD ?_;intro fr sb hm
 obtain⟨q1,qi⟩:=aV sb
 refine ar sb 14 [] [0,1,2,3,4,5,6,7,8,10,11,12,13] [9,14] (by kernel_rfl) (by kernel_rfl) ?_
 refine af ?_;try simp only[ox]
 repeat(go_big_quiet_step (fail))
 refine wpQuiet_nil ?_
 refine ay rfl (fun K' hK'=> ?_);go_simp
 ((with_reducible refine(tG M.L hm.ok me (by omega) _).mono ?_);rintro e w1 ⟨rfl,hb1⟩)
 revert fr sb hm;refine dX hb1 ?_;intro fr sb hm
 refine hK' _ _ (bZ sb) ?_;clear hK' K'
 refine ae _ _ _ (by kernel_rfl) ?_;try simp only[ox]
 clear qi q1
 go_wp2_with fail
 refine(fa hm (M.L.task me) bits (by omega)).mono ?_;clear hm;rintro e w2 ⟨rfl,hm,hf⟩
 revert fr sb;refine dS hf (aS c) o6 ag ?_;clear hf;intro fr sb
 have z1:=sb
 revert hm;revert fr;refine st1 sb 4 (.int .i64 1) (aL c) ag ?_;clear sb;rintro w3 e1 fr sb hm
 simp only[sx] at sb
 go_wp2_with fail
 refine NoPanic.normal ?_
 go_wp2_with fail
 clear z1 e1
 go_ret
 exact⟨by rw[HST.out];rfl,by rw[HST.out];exact hm,by rw[HST.out];exact⟨sb,by first | exact hno | (simp only;omega),hbt,by first | exact hfd | exact hcr,hme⟩,fr⟩
theorem o8 {a:kO} (hm:aj w C M m) (h:kp w C c b M.L me a) (h0:a.at_=1):Calls Tryz.prog 77 #[.pointer (some ⟨b,0,none⟩),.pointer (some ⟨M.b,0,none⟩)] w (AnW C c b M me (aW M me m a) w):=by
 obtain⟨no,at_,bits,found⟩:=a
 obtain⟨sb,hno,hbt,hfd,hme⟩:=h
 simp only at sb hno hbt hfd h0
 subst h0
 have hcr:=bJ hm M.L.counter
 obtain⟨v,hv⟩:∃ v,ld M m M.L.counter=v:=⟨_,rfl⟩
 have ew:IntKind.u64.wrap (v+1)=(v+1) % 18446744073709551616:=rfl
 have HST:Hid (aW M me m (⟨no,1,bits,found⟩:kO)=(false,add M m M.L.counter 1,(⟨((v+1) % 18446744073709551616),2,bits,found⟩:kO))):=Lib.hid (by unfold aW;simp only;rw[if_neg (by decide)];rw[if_pos (by decide)];rw[hv])
 rw[hv] at hcr
 have HV:=Lib.hid hv
 clear hv
 go_enter Tryz.func77,Tryz.ntmps77
 have fr:=Fr.refl C (Kc c) EB w
 have ag:=aB.refl w.heap.size C
 go_wp2_with fail
 refine(tI M.L hm.ok _).mono ?_;rintro e w1 ⟨rfl,hb1⟩
 revert hm;revert sb;revert fr;refine dX hb1 ?_;intro fr sb hm
 go_wp2_with fail
 refine(r9 hm M.L.counter 1).mono ?_;clear hm;rintro e w2 ⟨rfl,hm,hf⟩
 rw[HV.out]
 revert fr sb;refine dS hf (aS c) o6 ag ?_;clear hf;intro fr sb
 have z1:=sb
 revert hm;revert fr;refine st1 sb 2 (.int .u64 ((v+1) % 18446744073709551616)) (aL c) ag ?_;clear sb;rintro w3 e1 fr sb hm
 simp only[sx] at sb
 have z2:=sb
 revert fr hm;refine st1 sb 4 (.int .i64 2) (aL c) ag ?_;clear sb;rintro w4 e2 fr sb hm
 simp only[sx] at sb
 go_wp2_with fail
 clear z1 e1 z2 e2
 go_ret
 exact⟨by rw[HST.out];rfl,by rw[HST.out];exact hm,by rw[HST.out];exact⟨sb,by first | exact hno | (simp only;omega),hbt,by first | exact hfd | exact hcr,hme⟩,fr⟩
theorem o9 {a:kO} (hm:aj w C M m) (h:kp w C c b M.L me a) (h0:a.at_=2):Calls Tryz.prog 77 #[.pointer (some ⟨b,0,none⟩),.pointer (some ⟨M.b,0,none⟩)] w (AnW C c b M me (aW M me m a) w):=by
 obtain⟨no,at_,bits,found⟩:=a
 obtain⟨sb,hno,hbt,hfd,hme⟩:=h
 simp only at sb hno hbt hfd h0
 subst h0
 have HST:Hid (aW M me m (⟨no,2,bits,found⟩:kO)=(false,Proofs.YtbcnnhlpilmmbaaGreat.st M m (M.L.ticket me) no,(⟨no,3,bits,found⟩:kO))):=Lib.hid (by unfold aW;simp only;rw[if_neg (by decide)];rw[if_neg (by decide)];rw[if_pos (by decide)])
 go_enter Tryz.func77,Tryz.ntmps77
 have fr:=Fr.refl C (Kc c) EB w
 have ag:=aB.refl w.heap.size C
 go_wp2_with fail
 revert hm;revert sb;revert fr;refine bD ?_;intro fr sb hm
 obtain⟨q1,qi⟩:=aV sb
 refine ar sb 14 [] [0,1,2,3,4,5,6,7,8,10,11,12,13] [9,14] (by kernel_rfl) (by kernel_rfl) ?_
 refine af ?_;try simp only[ox]
 repeat(go_big_quiet_step (fail))
 refine wpQuiet_nil ?_
 refine ay rfl (fun K' hK'=> ?_);go_simp
 ((with_reducible refine(kG M.L hm.ok me (by omega) _).mono ?_);rintro e w1 ⟨rfl,hb1⟩)
 revert fr sb hm;refine dX hb1 ?_;intro fr sb hm
 refine hK' _ _ (bZ sb) ?_;clear hK' K'
 refine ae _ _ _ (by kernel_rfl) ?_;try simp only[ox]
 clear qi q1
 go_wp2_with fail
 refine(fa hm (M.L.ticket me) no (by omega)).mono ?_;clear hm;rintro e w2 ⟨rfl,hm,hf⟩
 revert fr sb;refine dS hf (aS c) o6 ag ?_;clear hf;intro fr sb
 have z1:=sb
 revert hm;revert fr;refine st1 sb 4 (.int .i64 3) (aL c) ag ?_;clear sb;rintro w3 e1 fr sb hm
 simp only[sx] at sb
 go_wp2_with fail
 refine NoPanic.normal ?_
 go_wp2_with fail
 clear z1 e1
 go_ret
 exact⟨by rw[HST.out];rfl,by rw[HST.out];exact hm,by rw[HST.out];exact⟨sb,by first | exact hno | (simp only;omega),hbt,by first | exact hfd | exact hcr,hme⟩,fr⟩
theorem pg {a:kO} (hm:aj w C M m) (h:kp w C c b M.L me a) (h0:a.at_=3):Calls Tryz.prog 77 #[.pointer (some ⟨b,0,none⟩),.pointer (some ⟨M.b,0,none⟩)] w (AnW C c b M me (aW M me m a) w):=by
 obtain⟨no,at_,bits,found⟩:=a
 obtain⟨sb,hno,hbt,hfd,hme⟩:=h
 simp only at sb hno hbt hfd h0
 subst h0
 have hcr:=bJ hm (M.L.desc me)
 obtain⟨v,hv⟩:∃ v,ld M m (M.L.desc me)=v:=⟨_,rfl⟩
 have HST:Hid (aW M me m (⟨no,3,bits,found⟩:kO)=(false,m,(⟨no,4,bits,v⟩:kO))):=Lib.hid (by unfold aW;simp only;rw[if_neg (by decide)];rw[if_neg (by decide)];rw[if_neg (by decide)];rw[if_pos (by decide)];rw[hv])
 rw[hv] at hcr
 have HV:=Lib.hid hv
 clear hv
 go_enter Tryz.func77,Tryz.ntmps77
 have fr:=Fr.refl C (Kc c) EB w
 have ag:=aB.refl w.heap.size C
 go_wp2_with fail
 revert hm;revert sb;revert fr;refine bD ?_;intro fr sb hm
 obtain⟨q1,qi⟩:=aV sb
 refine ar sb 10 [] [0,1,2,3,4,5,6,7,8,9] [10,11,12,13,14] (by kernel_rfl) (by kernel_rfl) ?_
 refine af ?_;try simp only[ox]
 repeat(go_big_quiet_step (fail))
 refine wpQuiet_nil ?_
 refine ae _ _ _ (by kernel_rfl) ?_;try simp only[ox]
 clear qi q1
 go_wp2_with fail
 refine(cC M.L hm.ok me (by omega) _).mono ?_;rintro e w1 ⟨rfl,hb1⟩
 revert fr sb hm;refine dX hb1 ?_;intro fr sb hm
 go_wp2_with fail
 refine(aP hm (M.L.desc me)).mono ?_;clear hm;rintro e w2 ⟨rfl,hm,hf⟩
 rw[HV.out]
 revert fr sb;refine dS hf (aS c) o6 ag ?_;clear hf;intro fr sb
 have z1:=sb
 revert hm;revert fr;refine st1 sb 7 (.int .u64 v) (aL c) ag ?_;clear sb;rintro w3 e1 fr sb hm
 simp only[sx] at sb
 have z2:=sb
 revert fr hm;refine st1 sb 4 (.int .i64 4) (aL c) ag ?_;clear sb;rintro w4 e2 fr sb hm
 simp only[sx] at sb
 go_wp2_with fail
 refine NoPanic.normal ?_
 go_wp2_with fail
 clear z1 e1 z2 e2
 go_ret
 exact⟨by rw[HST.out];rfl,by rw[HST.out];exact hm,by rw[HST.out];exact⟨sb,by first | exact hno | (simp only;omega),hbt,by first | exact hfd | exact hcr,hme⟩,fr⟩
theorem pj {a:kO} (hm:aj w C M m) (h:kp w C c b M.L me a) (h0:a.at_=4):Calls Tryz.prog 77 #[.pointer (some ⟨b,0,none⟩),.pointer (some ⟨M.b,0,none⟩)] w (AnW C c b M me (aW M me m a) w):=by
 obtain⟨no,at_,bits,found⟩:=a
 obtain⟨sb,hno,hbt,hfd,hme⟩:=h
 simp only at sb hno hbt hfd h0
 subst h0
 have HG:=fun W=>fC found W hfd
 have hdf:=cX found
 obtain⟨D,hD⟩:∃ D,getD' found=D:=⟨_,rfl⟩
 rw[hD] at HG hdf
 have uw:=fun W=>oa D hdf.aM W
 have HP:=j8 D.cm _ rfl
 have hxr:=gV D.cm
 obtain⟨y,hy⟩:∃ y,cL D.cm=y:=⟨_,rfl⟩
 rw[hy] at HP hxr
 have HST:Hid (aW M me m (⟨no,4,bits,found⟩:kO)=(true,Proofs.YtbcnnhlpilmmbaaGreat.st M m (M.L.desc me) y,(⟨no,5,bits,found⟩:kO))):=Lib.hid (by unfold aW;simp only;rw[if_neg (by decide)];rw[if_neg (by decide)];rw[if_neg (by decide)];rw[if_neg (by decide)];skip;rw[hD,hy])
 clear hD hy
 go_enter Tryz.func77,Tryz.ntmps77
 have fr:=Fr.refl C (Kc c) EB w
 have ag:=aB.refl w.heap.size C
 go_wp2_with fail
 revert hm;revert sb;revert fr;refine bk (HG _) ?_;rintro e w1 rfl fr sb hm
 go_wp2_with fail
 revert fr sb hm;refine bk (uw _) ?_;rintro e w2 rfl fr sb hm
 go_wp2_with fail
 revert fr sb hm;refine bk (HP _) ?_;rintro e w3 ⟨ec,rfl⟩ fr sb hm
 go_wp2_with fail
 revert fr sb hm;refine bD ?_;intro fr sb hm
 obtain⟨q1,qi⟩:=aV sb
 refine ar sb 11 [] [0,1,2,3,4,5,6,7,8,10] [9,11] (by kernel_rfl) (by kernel_rfl) ?_
 refine af ?_;try simp only[ox]
 repeat(go_big_quiet_step (fail))
 refine wpQuiet_nil ?_
 refine ay rfl (fun K' hK'=> ?_);go_simp
 ((with_reducible refine(cC M.L hm.ok me (by omega) _).mono ?_);rintro e w4 ⟨rfl,hb4⟩)
 revert fr sb hm;refine dX hb4 ?_;intro fr sb hm
 refine hK' _ _ (bZ sb) ?_;clear hK' K'
 refine ae _ _ _ (by kernel_rfl) ?_;try simp only[ox]
 clear qi q1
 go_wp2_with fail
 refine(fa hm (M.L.desc me) y (by omega)).mono ?_;clear hm;rintro e w5 ⟨rfl,hm,hf⟩
 revert fr sb;refine dS hf (aS c) o6 ag ?_;clear hf;intro fr sb
 have z1:=sb
 revert hm;revert fr;refine st1 sb 4 (.int .i64 5) (aL c) ag ?_;clear sb;rintro w6 e1 fr sb hm
 simp only[sx] at sb
 go_wp2_with fail
 refine NoPanic.normal ?_
 go_wp2_with fail
 clear z1 e1
 go_ret
 exact⟨by rw[HST.out];rfl,by rw[HST.out];exact hm,by rw[HST.out];exact⟨sb,by first | exact hno | (simp only;omega),hbt,by first | exact hfd | exact hcr,hme⟩,fr⟩
theorem qT {a:kO} (hm:aj w C M m) (h:kp w C c b M.L me a) (hat:0≤a.at_∧a.at_≤4):Calls Tryz.prog 77 #[.pointer (some ⟨b,0,none⟩),.pointer (some ⟨M.b,0,none⟩)] w (AnW C c b M me (aW M me m a) w):=by
 rcases(by omega:a.at_=0∨a.at_=1∨a.at_=2∨a.at_=3∨a.at_=4) with h0 | h0 | h0 | h0 | h0
 ·exact o7 hm h h0
 ·exact o8 hm h h0
 ·exact o9 hm h h0
 ·exact pg hm h h0
 ·exact pj hm h h0
structure pq (w:World) (C:Nat→Nat) (c b:Nat) (L:Ly) (me:Int) (r:ku):Prop where
 blk:SB w C c b 151 #[.int .i64 L.th,.int .i64 L.nd,.int .i64 r.code,.bool r.ok,.int .i64 r.val,.int .i64 me]
 me:0≤me∧me≤7
def LN:List (Option TypeId):=[some 151]
theorem pq.mv {x:ku} (h:pq w C c b L me x) (k:Fr C K T w w') (a:aB w.heap.size C C') (hk:¬ K c∨dr LN T):pq w' C' c b L me x:=⟨h.blk.mv k a (hk.imp id (fun h=>h _ (by decide))),h.me⟩
instance {w:World} {C:Nat→Nat} {c b:Nat} {L:Ly} {me:Int} {x:ku}:Mv (pq w C c b L me x) w C LN (fun w' C'=>pq w' C' c b L me x):=⟨fun h k a hk=>h.mv k a (.inr hk)⟩
theorem xa (L:Ly) (me:Int) (hme:0≤me∧me≤7) (C:Nat→Nat) (c:Nat) (w:World):Calls Tryz.prog 79 #[L.val,.int .i64 me] w (kH C c (fun w' C' b=>pq w' C' c b L me ⟨0,false,0⟩) w):=by
 obtain⟨th,nd⟩:=L
 go_enter Tryz.func79,Tryz.ntmps79
 go_wp2_with fail
 have hb0:Below w.heap.size w (w.alloc (.cells #[.int .i64 th,.int .i64 nd] 31)):=(Below.refl _ _).alloc (Nat.le_refl _) _
 go_ret
 exact⟨⟨w.heap.size+1,rfl,by omega,SB.new _ _ (aO C c (by omega)) _ _ (by simp),hme⟩,hb0.alloc (by simp) _⟩
def JE:List (Option TypeId):=[some 151,some 75,some 34]
theorem FI:∀ x,x∈LM→x∈JE:=by decide
structure MZ (C:Nat→Nat) (c b:Nat) (M:ML) (me:Int) (m:Mm) (r:ku) (w:World) (e:Ending) (w':World):Prop where
 ret:e= .returned (.bool true)
 mem:aj w' C M m
 own:pq w' C c b M.L me r
 fr:Fr C (Kc c) JE w w'
theorem uW {r:ku} (hm:aj w C M m) (h:pq w C c b M.L me r):Calls Tryz.prog 80 #[.pointer (some ⟨b,0,none⟩),.pointer (some ⟨M.b,0,none⟩)] w (MZ C c b M me m (getD' (ld M m (M.L.desc me))).res w):=by
 obtain⟨code,ok,val⟩:=r
 obtain⟨sb,hme⟩:=h
 simp only at sb
 have cr:=bJ hm (M.L.desc me)
 obtain⟨v,hv⟩:∃ v,ld M m (M.L.desc me)=v:=⟨_,rfl⟩
 rw[hv] at cr⊢
 have HV:=Lib.hid hv
 have HG:=fun W=>fC v W cr
 obtain⟨D,hD⟩:∃ D,getD' v=D:=⟨_,rfl⟩
 rw[hD] at HG⊢
 have HR:∀ W,Calls Tryz.prog 125 #[D.vals] W fun e w'=>e= .returned D.res.vals∧Below W.heap.size W w':=fun W=>Ap D W
 obtain⟨r,hr⟩:∃ r,D.res=r:=⟨_,rfl⟩
 rw[hr] at HR⊢
 obtain⟨c1,o1,v1⟩:=r
 simp only[ku.vals] at HR
 clear hv hD hr
 go_enter Tryz.func80,Tryz.ntmps80
 have fr:=Fr.refl C (Kc c) JE w
 have ag:=aB.refl w.heap.size C
 go_wp2_with fail
 revert hm;revert sb;revert fr;refine bD ?_;intro fr sb hm
 obtain⟨q1,qi⟩:=aV sb
 refine ar sb 10 [] [0,1,2,3,4,5,6,7,8,9] [10,11,12,13,14,15,16] (by kernel_rfl) (by kernel_rfl) ?_
 refine af ?_;try simp only[ox]
 repeat(go_big_quiet_step (fail))
 refine wpQuiet_nil ?_
 refine ae _ _ _ (by kernel_rfl) ?_;try simp only[ox]
 clear qi q1
 go_wp2_with fail
 refine(cC M.L hm.ok me (by omega) _).mono ?_;rintro e w1 ⟨rfl,hb1⟩
 revert fr sb hm;refine dX hb1 ?_;intro fr sb hm
 go_wp2_with fail
 refine(aP hm (M.L.desc me)).mono ?_;clear hm;rintro e w2 ⟨rfl,hm,hf⟩
 rw[HV.out]
 revert fr sb;refine dS hf (aS c) FI ag ?_;clear hf;intro fr sb
 go_wp2_with fail
 revert hm sb;revert fr;refine bk (HG _) ?_;rintro e w3 rfl fr hm sb
 go_wp2_with fail
 revert fr hm sb;refine bk (HR _) ?_;rintro e w4 rfl fr hm sb
 have z1:=sb
 revert fr hm;refine st1 sb 2 (.int .i64 c1) (aL c) ag ?_;clear sb;rintro w5 e1 fr sb hm
 simp only[sx] at sb
 have z2:=sb
 revert fr hm;refine st1 sb 3 (.bool o1) (aL c) ag ?_;clear sb;rintro w6 e2 fr sb hm
 simp only[sx] at sb
 have z3:=sb
 revert fr hm;refine st1 sb 4 (.int .i64 v1) (aL c) ag ?_;clear sb;rintro w7 e3 fr sb hm
 simp only[sx] at sb
 go_wp2_with fail
 refine NoPanic.normal ?_
 go_wp2_with fail
 clear z1 e1 z2 e2 z3 e3
 go_ret
 exact⟨rfl,hm,⟨sb,hme⟩,fr⟩
end Go.Proofs.YtbcnnhlpilmmbaaGreat
