/- Texts that are wanted for PTopFull.
   Conditions: none. -/
import Derived.Test.YtbcnnhlpilmmbaaGreatJPTopFull02
set_option maxRecDepth 100000
set_option maxHeartbeats 6400000
namespace Go.Proofs.YtbcnnhlpilmmbaaGreat
open Go Go.RowKit
def Kc (c:Nat):Nat→Prop:=fun x=>x=c∨x=1
def K0 (c:Nat):Nat→Prop:=fun x=>x=c
theorem eO (c:Nat):K0 c c:=rfl
theorem aL (c:Nat):∀ x,K0 c x→Kc c x:=fun _ h=> .inl h
theorem fK (c:Nat):Kc c c:= .inl rfl
theorem aS (c:Nat):∀ x,K1 x→Kc c x:=fun _ h=> .inr h
variable {w:World} {C:Nat→Nat} {c b:Nat}
theorem SB.qh {t:TypeId} {cs:Array Value} (h:SB w C c b t cs) (i:Nat) (u:Value):Fr C (K0 c) [some t] w (w.setCell ⟨b,i,none⟩ u):=
 (Fr.refl C (K0 c) [some t] w).ao h rfl (List.mem_cons_self ..) i u
structure gL where
 got:Int
 at_:Int
 left:Int
 found:Int
 free:Bool
structure mo (w:World) (C:Nat→Nat) (c b:Nat) (L:Ly) (a:gL):Prop where
 blk:SB w C c b 185 #[.int .i64 L.th,.int .i64 L.nd,.int .i64 a.got,.int .i64 a.at_,.int .i64 a.left,.int .u64 a.found,.bool a.free]
 found:0≤a.found∧a.found<18446744073709551616
 at_:1≤a.at_∧a.at_≤L.nd
 left: -1000≤a.left∧a.left≤1000
def gL.on (L:Ly) (a:gL):gL:={ a with free:=false,at_:=a.at_ % L.nd+1,left:=a.left - 1 }
def cp (M:ML) (m:Nat→Int) (a:gL):Bool×(Nat→Int)×gL:=
 if a.free then
  if bS M m (M.L.life a.at_) a.found then (true,cas M m (M.L.life a.at_) a.found ((a.found+1) % 18446744073709551616),{ a with got:=a.at_ })
  else (decide (a.left - 1≤0),m,a.on M.L)
 else
  if ld M m (M.L.life a.at_) % 2=0 then (false,m,{ a with found:=ld M m (M.L.life a.at_),free:=true })
  else (decide (a.left - 1≤0),m,({ a with found:=ld M m (M.L.life a.at_),free:=false }:gL).on M.L)
def E5:List (Option TypeId):=[some 185,some 75,some 34]
structure kH (C:Nat→Nat) (c:Nat) (P:World→(Nat→Nat)→Nat→Prop) (w:World) (e:Ending) (w':World):Prop where
 ex:∃ b,e= .returned (.pointer (some ⟨b,0,none⟩))∧w.heap.size≤b∧P w' (a9 C w.heap.size c) b
 bel:Below w.heap.size w w'
abbrev Es (C:Nat→Nat) (c:Nat) (L:Ly) (a:gL) (w:World):Ending→World→Prop:=kH C c (fun w' C' b=>mo w' C' c b L a) w
theorem Ai (L:Ly) (hL:L.Ok) (from_:Int) (C:Nat→Nat) (c:Nat) (w:World):Calls Tryz.prog 110 #[L.val,.int .i64 from_] w (Es C c L ⟨0,if L.node from_ then from_ else 1,L.nd,0,false⟩ w):=by
 have m5:=fun W=>tJ L from_ W
 have hN:L.node from_=true→1≤from_∧from_≤L.nd:=fun h=>by
  unfold Ly.node at h
  rw[Bool.and_eq_true] at h
  exact⟨of_decide_eq_true h.1,of_decide_eq_true h.2⟩
 have h4:=hL.nd
 obtain⟨f,hf⟩:∃ f,L.node from_=f:=⟨_,rfl⟩
 rw[hf] at m5 hN⊢
 clear hf hL
 obtain⟨th,nd⟩:=L
 simp only[Ly.val] at m5 hN h4⊢
 have HN:=Lib.hid m5
 clear m5
 cases f
 ·clear hN
  go_enter Tryz.func110,Tryz.ntmps110
  go_wp2_with fail
  have hx:=a8.new w 31 #[.int .i64 th,.int .i64 nd]
  have hb0:Below w.heap.size w (w.alloc (.cells #[.int .i64 th,.int .i64 nd] 31)):=(Below.refl _ _).alloc (Nat.le_refl _) _
  generalize(w.alloc (.cells #[.int .i64 th,.int .i64 nd] 31))=w1 at *
  refine(HN.out w1).mono ?_
  rintro e w2 ⟨rfl,hb2⟩
  have hx2:=hx.step hb2
  have de:=hb0.trans (hb2.mono hb0.size)
  have hc:=hx2.cells
  go_wp2_with fail
  go_ret
  exact⟨⟨w2.heap.size,rfl,de.size,SB.new w2 _ (aO C c de.size) _ _ rfl,by simp only;omega,by simp;omega,by simp only;omega⟩,de.alloc de.size _⟩
 ·have hn2:=hN rfl
  clear hN
  go_enter Tryz.func110,Tryz.ntmps110
  go_wp2_with fail
  have hx:=a8.new w 31 #[.int .i64 th,.int .i64 nd]
  have hb0:Below w.heap.size w (w.alloc (.cells #[.int .i64 th,.int .i64 nd] 31)):=(Below.refl _ _).alloc (Nat.le_refl _) _
  generalize(w.alloc (.cells #[.int .i64 th,.int .i64 nd] 31))=w1 at *
  refine(HN.out w1).mono ?_
  rintro e w2 ⟨rfl,hb2⟩
  have hx2:=hx.step hb2
  have de:=hb0.trans (hb2.mono hb0.size)
  have hc:=hx2.cells
  go_wp2_with fail
  go_ret
  exact⟨⟨w2.heap.size,rfl,de.size,SB.new w2 _ (aO C c de.size) _ _ rfl,by simp only;omega,by simp;omega,by simp only;omega⟩,de.alloc de.size _⟩
variable {L:Ly}
theorem tO {a:gL} (hL:L.Ok) (h:mo w C c b L a) (hlo:0≤a.left):Calls Tryz.prog 152 #[.pointer (some ⟨b,0,none⟩)] w fun e w'=>e= .returned (.bool (decide (a.left - 1≤0)))∧mo w' C c b L (a.on L)∧Fr C (K0 c) [some 185] w w':=by
 obtain⟨hb,hfo,hat,hle⟩:=h
 obtain⟨got,at_,left,found,free⟩:=a
 obtain⟨th,nd⟩:=L
 obtain⟨⟨h1,h2⟩,h3,h4⟩:=hL
 simp only at hb hfo hat hle h1 h2 h3 h4 hlo
 have hc:=hb.blk.cells
 have hf:=hb.blk.frees
 have hl:=hb.lt
 have hmod:0≤at_ % nd∧at_ % nd<nd:=⟨Int.emod_nonneg _ (by omega),Int.emod_lt_of_pos _ (by omega)⟩
 go_enter Tryz.func152,Tryz.ntmps152
 go_wp2_with fail
 have tk:=(hb.tk (K0 c) [some 185]).set (eO c) (by decide) 6 (.bool false)
 generalize w.setCell ⟨b,6,none⟩ (.bool false)=w1 at *
 have tk':Tk C (K0 c) [some 185] w w1 c b 185 #[.int .i64 th,.int .i64 nd,.int .i64 got,.int .i64 at_,.int .i64 left,.int .u64 found,.bool false]:=tk
 clear tk hc hf hl
 have hc:=tk'.sb.blk.cells
 have hf:=tk'.sb.blk.frees
 have q:=Later.cells (B:=w1.heap.size) tk'.sb.blk tk'.sb.lt
 refine az (fun w'=>∃ q:Later w1.heap.size w1,w'=q.val) 14 [] [0,1,2,3,4,5,6,7,8,9,10,11,12,13] [14] (by kernel_rfl) (by kernel_rfl) (Later.bI (Below.refl _ _).drew) ?_
 refine af ?_
 try simp only[au,List.map_cons,List.map_nil,List.getD_cons_zero,List.getD_cons_succ]
 repeat(go_big_quiet_step (fail))
 refine wpQuiet_nil ?_
 refine ae _ _ _ (by kernel_rfl) ?_
 try simp only[au,List.map_cons,List.map_nil,List.getD_cons_zero,List.getD_cons_succ]
 clear q
 go_wp2_with fail
 refine NoPanic.normal ?_
 go_wp2_with fail
 go_ret
 have tk2:=((tk'.set (eO c) (by decide) 3 (.int .i64 (at_ % nd+1))).set (eO c) (by decide) 4 (.int .i64 (left - 1))).drew
 exact⟨rfl,⟨tk2.sb,hfo,⟨by simp only[gL.on];omega,by simp only[gL.on];omega⟩,⟨by simp only[gL.on];omega,by simp only[gL.on];omega⟩⟩,tk2.fr⟩
theorem Aj:∀ x,x∈LM→x∈E5:=by decide
theorem Al:∀ x,x∈[some 185]→x∈E5:=by decide
structure Mw (C:Nat→Nat) (c b:Nat) (M:ML) (r:Bool×(Nat→Int)×gL) (w:World) (e:Ending) (w':World):Prop where
 ret:e= .returned (.bool r.1)
 mem:aj w' C M r.2.1
 own:mo w' C c b M.L r.2.2
 fr:Fr C (Kc c) E5 w w'
variable {M:ML} {m:Nat→Int}
theorem n9 {a:gL} (hm:aj w C M m) (h:mo w C c b M.L a) (hlo:0≤a.left):Calls Tryz.prog 112 #[.pointer (some ⟨b,0,none⟩),.pointer (some ⟨M.b,0,none⟩)] w (Mw C c b M (cp M m a) w):=by
 have hL:=hm.ok
 obtain⟨hb,hfo,hat,hle⟩:=h
 obtain⟨got,at_,left,found,free⟩:=a
 simp only at hb hfo hat hle hlo
 have h3:=hL.th
 have h4:=hL.nd
 cases free
 ·obtain⟨v,hv⟩:∃ v,ld M m (M.L.life at_)=v:=⟨_,rfl⟩
  have cr:0≤v∧v<18446744073709551616:=by
   rw[←hv];unfold ld
   split
   ·exact hm.rng _
   ·omega
  have HST:Hid (cp M m ⟨got,at_,left,found,false⟩=if v % 2=0 then (false,m,⟨got,at_,left,v,true⟩) else (decide (left - 1≤0),m,(⟨got,at_,left,v,false⟩:gL).on M.L)):=Lib.hid (by simp only[cp];rw[hv];rfl)
  have HV:=Lib.hid hv
  clear hv
  have hc:=hb.blk.cells
  have hl:=hb.lt
  go_enter Tryz.func112,Tryz.ntmps112
  go_wp2_with fail
  clear hc
  have q:=Later.cells (B:=w.heap.size) hb.blk hl
  refine az (fun w'=>∃ q:Later w.heap.size w,w'=q.val) 10 [] [0,1,2,3,4,5,6,7,8,9] [10,11,12,13,14] (by kernel_rfl) (by kernel_rfl) (Later.bI (Below.refl _ _).drew) ?_
  refine af ?_
  try simp only[au,List.map_cons,List.map_nil,List.getD_cons_zero,List.getD_cons_succ]
  repeat(go_big_quiet_step (fail))
  refine wpQuiet_nil ?_
  refine ae _ _ _ (by kernel_rfl) ?_
  try simp only[au,List.map_cons,List.map_nil,List.getD_cons_zero,List.getD_cons_succ]
  clear q
  go_wp2_with fail
  refine(jF M.L hL at_ (by omega) _).mono ?_
  rintro e w1 ⟨rfl,hb1⟩
  go_wp2_with fail
  refine(aP (hm.drew.step hb1) (M.L.life at_)).mono ?_
  rintro e w2 ⟨rfl,hm2,hf2⟩
  rw[HV.out]
  have tk:=((hb.tk (Kc c) E5).drew.step hb1).call hf2 (aS c) Aj (.inr (by decide))
  have hc2:=tk.sb.blk.cells
  have hfz:=tk.sb.blk.frees
  go_wp2_with fail
  refine NoPanic.normal ?_
  have tk1:=tk.set (fK c) (by decide) 5 (.int .u64 v)
  have CP:=hm2.ao tk.sb (by decide) (by decide) 5 (.int .u64 v)
  clear hc2 hfz
  generalize w2.setCell ⟨b,5,none⟩ (.int .u64 v)=w3 at *
  have tk2:Tk C (Kc c) E5 w w3 c b 185 #[.int .i64 M.L.th,.int .i64 M.L.nd,.int .i64 got,.int .i64 at_,.int .i64 left,.int .u64 v,.bool false]:=tk1
  clear tk tk1 hb1 hf2 hm2
  have hc3:=tk2.sb.blk.cells
  have hf3:=tk2.sb.blk.frees
  by_cases hev:v % 2=0
  ·have hq:(v % 2==0)=true:=beq_iff_eq.2 hev
   have tk3:=tk2.set (fK c) (by decide) 6 (.bool true)
   have hm4:=CP.ao tk2.sb (by decide) (by decide) 6 (.bool true)
   rw[if_pos hev] at HST
   clear hev
   go_wp2_with fail
   go_ret
   exact⟨by rw[HST.out];rfl,by rw[HST.out];exact hm4,by rw[HST.out];exact⟨tk3.sb,cr,hat,hle⟩,tk3.fr⟩
  ·have hq:(v % 2==0)=false:=beq_eq_false_iff_ne.2 hev
   have tk3:=tk2.set (fK c) (by decide) 6 (.bool false)
   have hm4:=CP.ao tk2.sb (by decide) (by decide) 6 (.bool false)
   rw[if_neg hev] at HST
   clear hev
   go_wp2_with fail
   refine(tO (L:=M.L) (a:=⟨got,at_,left,v,false⟩) hL ⟨tk3.sb,cr,hat,hle⟩ hlo).mono ?_
   rintro e w4 ⟨rfl,JU,hf4⟩
   go_wp2_with fail
   go_ret
   exact⟨by rw[HST.out];rfl,by rw[HST.out];exact hm4.fr hf4 (.inr ⟨by decide,by decide⟩),by rw[HST.out];exact JU,tk3.fr.eX (hf4.mono (aL c) Al)⟩
 ·obtain⟨ok,hok⟩:∃ ok,bS M m (M.L.life at_) found=ok:=⟨_,rfl⟩
  have HST:Hid (cp M m ⟨got,at_,left,found,true⟩=if ok then (true,cas M m (M.L.life at_) found ((found+1) % 18446744073709551616),⟨at_,at_,left,found,true⟩) else (decide (left - 1≤0),m,(⟨got,at_,left,found,true⟩:gL).on M.L)):=Lib.hid (by simp only[cp];rw[hok];rfl)
  have E6:=Lib.hid hok
  have hwr:IntKind.u64.wrap (found+1)=(found+1) % 18446744073709551616:=by simp[IntKind.wrap,IntKind.bits,IntKind.signed]
  have Jo:=Lib.hid hwr
  clear hok hwr
  have hc:=hb.blk.cells
  have hl:=hb.lt
  go_enter Tryz.func112,Tryz.ntmps112
  go_wp2_with fail
  clear hc
  have q:=Later.cells (B:=w.heap.size) hb.blk hl
  refine az (fun w'=>∃ q:Later w.heap.size w,w'=q.val) 19 [] [0,1,2,3,4,5,6,7,8,10,11,12,13,14,15,16,17,18] [9,19] (by kernel_rfl) (by kernel_rfl) (Later.bI (Below.refl _ _).drew) ?_
  refine af ?_
  try simp only[au,List.map_cons,List.map_nil,List.getD_cons_zero,List.getD_cons_succ]
  repeat(go_big_quiet_step (fail))
  refine wpQuiet_nil ?_
  refine ay rfl (fun K' hK'=> ?_)
  go_simp
  ((with_reducible refine(jF M.L hL at_ (by omega) _).mono ?_);rintro e w1 ⟨rfl,hb1⟩)
  refine hK' _ _ (Later.bI ((Below.refl w.heap.size w).drew.trans hb1)) ?_
  clear hK' K'
  refine ae _ _ _ (by kernel_rfl) ?_
  try simp only[au,List.map_cons,List.map_nil,List.getD_cons_zero,List.getD_cons_succ]
  clear q
  have hb1':=(Below.refl w.heap.size w).drew.trans hb1
  go_wp2_with fail
  rw[Jo.out]
  refine(fq (hm.step hb1') (M.L.life at_) found ((found+1) % 18446744073709551616) (by omega)).mono ?_
  rintro e w2 ⟨rfl,hm2,hf2⟩
  rw[E6.out]
  have tk:=((hb.tk (Kc c) E5).step hb1').call hf2 (aS c) Aj (.inr (by decide))
  have hc2:=tk.sb.blk.cells
  have hfz:=tk.sb.blk.frees
  cases ok
  ·have hcs:cas M m (M.L.life at_) found ((found+1) % 18446744073709551616)=m:=by unfold cas;rw[E6.out];rfl
   rw[hcs] at hm2
   go_wp2_with fail
   refine NoPanic.normal ?_
   go_wp2_with fail
   refine(tO (L:=M.L) (a:=⟨got,at_,left,found,true⟩) hL ⟨tk.sb,hfo,hat,hle⟩ hlo).mono ?_
   rintro e w4 ⟨rfl,JU,hf4⟩
   go_wp2_with fail
   go_ret
   exact⟨by rw[HST.out];rfl,by rw[HST.out];exact hm2.fr hf4 (.inr ⟨by decide,by decide⟩),by rw[HST.out];exact JU,tk.fr.eX (hf4.mono (aL c) Al)⟩
  ·have tk3:=tk.set (fK c) (by decide) 2 (.int .i64 at_)
   have hm4:=hm2.ao tk.sb (by decide) (by decide) 2 (.int .i64 at_)
   go_wp2_with fail
   refine NoPanic.normal ?_
   go_wp2_with fail
   go_ret
   exact⟨by rw[HST.out];rfl,by rw[HST.out];exact hm4,by rw[HST.out];exact⟨tk3.sb,hfo,hat,hle⟩,tk3.fr⟩
structure Opn where
 kind:Int
 key:Int
def Opn.cells (o:Opn):List Value:=[.int .i64 o.kind,.int .i64 o.key]
theorem Opn.db (o:Opn):o.cells.length=2:=rfl
structure ku where
 code:Int
 ok:Bool
 val:Int
def ly (sh kind key:Int):Prop:=
 0≤key∧key≤999∧(((sh=1∨sh=2)∧1≤kind∧kind≤3)∨((sh=3∨sh=4)∧(kind=4∨(kind=5∧key=0))))
instance ly.dec (sh kind key:Int):Decidable (ly sh kind key):=by unfold ly;infer_instance
def may (sh:Int) (o:Opn):Bool:=decide (ly sh o.kind o.key)
def below (l:List Int) (x:Int):Nat:=l.countP (· <x)
def q9 (l:List Int) (x:Int):Nat→Bool
 | 0=>false
 | k+1=>q9 l x k || decide (l[k]? =some x)
theorem ra (l:List Int) (x:Int):∀ k,k≤l.length→q9 l x k=(l.take k).contains x
 | 0,_=>rfl
 | k+1,h=>by
  simp only[q9]
  rw[ra l x k (by omega),List.take_add_one,List.getElem?_eq_getElem (by omega)]
  simp only[Option.toList,List.contains_append,Option.some.injEq]
  congr 1
  by_cases h1:l[k]=x
  ·simp[h1]
  ·have h2:¬ x=l[k]:=fun e=>h1 e.symm
   simp[h1,h2]
def jx (l:List Int) (x:Int):Bool:=l.contains x
def JV (l:List Int) (x:Int) (w:World) (e:Ending) (w':World):Prop:=(∃ i:Int,e= .returned (.int .i64 i)∧decide (0≤i)=jx l x)∧w=w'
theorem slices_Index (A:Option Addr) (n c B:Nat) (l:List Int) (x:Int) (w:World) (hs:Sl w B 1 A n (cv l)) (hl:l.length=n) (hn:n≤100000):
  Calls Tryz.prog 89 #[.slice A n c,.int .i64 x] w (JV l x w):=by
 have HL:=Lib.hid hl
 clear hl
 go_enter Tryz.func89,Tryz.ntmps89
 go_wp2_with fail
 go_loop [8] (fun i=>∃ k:Nat,k≤n∧i= .int .i64 k∧Hid (q9 l x k=false)) (fun i=>n - (intOf i).toNat)
 case atStart=>exact⟨0,by omega,rfl,Lib.hid rfl⟩
 case round=>
  obtain⟨k,hk,rfl,hno⟩:=hrel
  by_cases hlt:k<n
  ·obtain⟨y,hy⟩:∃ y,l[k]? =some y:=⟨_,List.getElem?_eq_getElem (by rw[HL.out];exact hlt)⟩
   have hidx:=hs.idx (P:=Tryz.prog) (c:=c) Tryz.underlying89 iL hlt
   have g1:=hs.at_ (i:=0) hlt (by omega)
   simp only[Nat.mul_one,Nat.add_zero] at g1 hidx
   rw[iM,hy] at g1
   simp only[Option.map_some] at g1
   by_cases he:x=y
   ·have hq:(x==y)=true:=beq_iff_eq.2 he
    have hm:Hid (decide ((0:Int)≤(k:Int))=jx l x):=Lib.hid (by
     unfold jx
     have:x∈l:=by rw[he];exact List.mem_of_getElem? hy
     rw[show l.contains x=true by simpa using this];simp)
    clear hy he
    go_wp2_with fail
    go_ret
    exact⟨⟨_,rfl,hm.out⟩,rfl⟩
   ·have hq:(x==y)=false:=beq_eq_false_iff_ne.2 he
    have hn2:Hid (q9 l x (k+1)=false):=Lib.hid (by
     simp only[q9]
     rw[hno.out,hy,decide_eq_false (by simp;exact fun e=>he e.symm)];rfl)
    clear hy he
    go_wp2_with fail
    go_round
    case rel=>exact⟨k+1,by omega,by go_num,hn2⟩
    case measure=>simp[intOf];omega
  ·obtain rfl:k=n:=by omega
   have hm:Hid (decide ((0:Int)≤-1)=jx l x):=Lib.hid (by
    unfold jx
    have h1:=ra l x k (by rw[HL.out];exact Nat.le_refl _)
    rw[hno.out,List.take_of_length_le (by rw[HL.out];exact Nat.le_refl _)] at h1
    rw[←h1];rfl)
   go_wp2_with fail
   go_ret
   exact⟨⟨_,rfl,hm.out⟩,rfl⟩
theorem slices_Contains (A:Option Addr) (n c B:Nat) (l:List Int) (x:Int) (w:World) (hs:Sl w B 1 A n (cv l)) (hl:l.length=n) (hn:n≤100000):
  Calls Tryz.prog 64 #[.slice A n c,.int .i64 x] w fun e w'=>e= .returned (.bool (jx l x))∧w=w':=by
 have hi:=slices_Index A n c B l x w hs hl hn
 go_enter Tryz.func64,Tryz.ntmps64
 go_wp2_with fail
 refine hi.mono ?_
 rintro e w1 ⟨⟨i,rfl,h⟩,rfl⟩
 have HI:=Lib.hid h
 clear h hi
 go_wp2_with fail
 go_ret
 exact⟨by rw[←HI.out];rfl,rfl⟩
def Ds.res (d:Ds):ku:=if d.status=5 then (if d.next=1 then ⟨4,false,0⟩ else ⟨0,d.mark,d.val⟩) else ⟨5,false,0⟩
def ku.vals (r:ku):Value:= .agg #[.int .i64 r.code,.bool r.ok,.int .i64 r.val]
theorem j0 (d:Ds) (A:Option Addr) (n c B:Nat) (l:List Int) (w:World) (hs:Sl w B 1 A n (cv l)) (hB:B≤w.heap.size) (hl:l.length=n) (hn:n≤100000):
  Calls Tryz.prog 140 #[d.vals,.slice A n c] w fun e w'=>e= .returned (.bool (jx l d.status))∧Below w.heap.size w w':=by
 obtain⟨a,ad,v,ne,m,st,vl⟩:=d
 simp only[Ds.vals]
 have hb0:Below w.heap.size w (w.alloc (.cells #[.int .i64 a,.int .i64 ad,.int .i64 v,.int .i64 ne,.bool m,.int .i64 st,.int .i64 vl] 161)):=(Below.refl _ _).alloc (Nat.le_refl _) _
 have hs1:=hs.step hB hb0
 go_enter Tryz.func140,Tryz.ntmps140
 go_wp2_with fail
 refine(slices_Contains A n c B l st _ hs1 hl hn).mono ?_
 rintro e w1 ⟨rfl,rfl⟩
 go_wp2_with fail
 go_ret
 exact⟨rfl,hb0⟩
theorem CQ (d:Ds) (h:d.Fit):jx [1,2,3,4] d.status=d.pend:=by
 unfold jx
 have:=h.status
 unfold Ds.pend
 have h8:d.status=0∨d.status=1∨d.status=2∨d.status=3∨d.status=4∨d.status=5∨d.status=6∨d.status=7:=by omega
 rcases h8 with e | e | e | e | e | e | e | e<;>rw[e]<;>decide
theorem iS (d:Ds) (hd:d.Fit) (w:World):Calls Tryz.prog 93 #[d.vals] w fun e w'=>e= .returned (.bool d.pend)∧Below w.heap.size w w':=by
 have HP:=Lib.hid (CQ d hd)
 clear hd
 obtain⟨a,ad,v,ne,m,st,vl⟩:=d
 have hi:=fun (W:World) (B:Nat) (A:Option Addr) (h:Sl W B 1 A 4 (cv [1,2,3,4])) (hB:B≤W.heap.size)=>j0 ⟨a,ad,v,ne,m,st,vl⟩ A 4 4 B [1,2,3,4] W h hB rfl (by omega)
 have HI:=Lib.hid hi
 clear hi
 simp only[Ds.vals] at HI⊢
 go_enter Tryz.func93,Tryz.ntmps93
 go_wp2_with fail
 have hb0:Below w.heap.size w (w.alloc (.cells #[.int .i64 a,.int .i64 ad,.int .i64 v,.int .i64 ne,.bool m,.int .i64 st,.int .i64 vl] 161)):=(Below.refl _ _).alloc (Nat.le_refl _) _
 have hz:(w.alloc (.cells #[.int .i64 a,.int .i64 ad,.int .i64 v,.int .i64 ne,.bool m,.int .i64 st,.int .i64 vl] 161)).heap.size=w.heap.size+1:=by simp
 generalize(w.alloc (.cells #[.int .i64 a,.int .i64 ad,.int .i64 v,.int .i64 ne,.bool m,.int .i64 st,.int .i64 vl] 161))=w1 at *
 have hsl:=kF w1 [1,2,3,4] 4 rfl
 have hbl:Below w1.heap.size w1 (w1.alloc (.cells (cv [1,2,3,4]).toArray 3)):=(Below.refl _ _).alloc (Nat.le_refl _) _
 rw[hz] at hsl
 refine(HI.out _ _ _ hsl (by simp[hz])).mono ?_
 rintro e w2 ⟨rfl,hb2⟩
 have hb:=hb0.trans ((hbl.trans (hb2.mono hbl.size)).mono hb0.size)
 go_wp2_with fail
 go_ret
 exact⟨by rw[←HP.out];rfl,hb⟩
theorem oa (d:Ds) (hd:0≤d.aM∧d.aM<4096) (w:World):Calls Tryz.prog 124 #[d.vals] w fun e w'=>e= .returned d.cm.vals∧Below w.heap.size w w':=by
 obtain⟨a,ad,v,ne,m,st,vl⟩:=d
 have HV:=Lib.hid (CL a hd)
 simp only[Ds.vals,Ds.cm] at hd⊢
 go_enter Tryz.func124,Tryz.ntmps124
 go_wp2_with fail
 rw[HV.out]
 refine bodyPost_ret (v:= .agg #[.int .i64 ((a+1) % 4096),.int .i64 0,.int .i64 0,.int .i64 0,.bool false,.int .i64 1,.int .i64 0]) (by simp[results,Tryz.results124,go_sem]) rfl ⟨rfl,by repeat(first | with_reducible exact Below.refl _ _ | refine Below.alloc ?_ (by simp<;>omega) _ | refine Below.setCell ?_ (by simp<;>omega) _ | refine below_drewN ?_ _ | refine Below.drew ?_)⟩
theorem mq (d:Ds) (s:Int) (w:World):Calls Tryz.prog 160 #[d.vals,.int .i64 s] w fun e w'=>e= .returned (d.with_ s).vals∧Below w.heap.size w w':=by
 obtain⟨a,ad,v,ne,m,st,vl⟩:=d
 simp only[Ds.vals,Ds.with_]
 go_enter Tryz.func160,Tryz.ntmps160
 go_wp2_with fail
 refine bodyPost_ret (v:= .agg #[.int .i64 a,.int .i64 ad,.int .i64 v,.int .i64 ne,.bool m,.int .i64 s,.int .i64 vl]) (by simp[results,Tryz.results160,go_sem]) rfl ⟨rfl,by repeat(first | with_reducible exact Below.refl _ _ | refine Below.alloc ?_ (by simp<;>omega) _ | refine Below.setCell ?_ (by simp<;>omega) _ | refine below_drewN ?_ _ | refine Below.drew ?_)⟩
def Am (d:Ds) (code:Int) (ok:Bool) (val:Int) (w:World) (e:Ending) (w':World):Prop:=e= .returned (d.ended code ok val).vals∧Below w.heap.size w w'
theorem oc (d:Ds) (code:Int) (ok:Bool) (val:Int) (w:World):Calls Tryz.prog 101 #[d.vals,.agg #[.int .i64 code,.bool ok,.int .i64 val]] w (Am d code ok val w):=by
 obtain⟨a,ad,v,ne,m,st,vl⟩:=d
 have HE:Hid ((⟨a,ad,v,ne,m,st,vl⟩:Ds).ended code ok val=⟨a,0,0,if code=4 then 1 else 0,ok,5,val⟩):=Lib.hid rfl
 simp only[Ds.vals]
 by_cases hc:code=4
 ·have hq:(code==4)=true:=beq_iff_eq.2 hc
  have HC:=Lib.hid hc
  clear hc
  go_enter Tryz.func101,Tryz.ntmps101
  go_wp2_with fail
  refine bodyPost_ret (v:= .agg #[.int .i64 a,.int .i64 0,.int .i64 0,.int .i64 1,.bool ok,.int .i64 5,.int .i64 val]) (by simp[results,Tryz.results101,go_sem]) rfl ⟨by rw[HE.out,if_pos HC.out];rfl,by repeat(first | with_reducible exact Below.refl _ _ | refine Below.alloc ?_ (by simp<;>omega) _ | refine Below.setCell ?_ (by simp<;>omega) _ | refine below_drewN ?_ _ | refine Below.drew ?_)⟩
 ·have hq:(code==4)=false:=beq_eq_false_iff_ne.2 hc
  have HC:=Lib.hid hc
  clear hc
  go_enter Tryz.func101,Tryz.ntmps101
  go_wp2_with fail
  refine bodyPost_ret (v:= .agg #[.int .i64 a,.int .i64 0,.int .i64 0,.int .i64 0,.bool ok,.int .i64 5,.int .i64 val]) (by simp[results,Tryz.results101,go_sem]) rfl ⟨by rw[HE.out,if_neg HC.out];rfl,by repeat(first | with_reducible exact Below.refl _ _ | refine Below.alloc ?_ (by simp<;>omega) _ | refine Below.setCell ?_ (by simp<;>omega) _ | refine below_drewN ?_ _ | refine Below.drew ?_)⟩
def JW (d:Ds) (w:World) (e:Ending) (w':World):Prop:=e= .returned d.res.vals∧Below w.heap.size w w'
theorem Ap (d:Ds) (w:World):Calls Tryz.prog 125 #[d.vals] w (JW d w):=by
 obtain⟨a,ad,v,ne,m,st,vl⟩:=d
 have HE:Hid ((⟨a,ad,v,ne,m,st,vl⟩:Ds).res=if st=5 then (if ne=1 then ⟨4,false,0⟩ else ⟨0,m,vl⟩) else ⟨5,false,0⟩):=Lib.hid rfl
 simp only[Ds.vals]
 by_cases hs:st=5
 ·have hq:(st==5)=true:=beq_iff_eq.2 hs
  have hq':(st !=5)=false:=by simp[hs]
  have HS:=Lib.hid hs
  clear hs
  by_cases hn:ne=1
  ·have hr:(ne==1)=true:=beq_iff_eq.2 hn
   have HN:=Lib.hid hn
   clear hn
   go_enter Tryz.func125,Tryz.ntmps125
   go_wp2_with fail
   refine bodyPost_ret (v:= .agg #[.int .i64 4,.bool false,.int .i64 0]) (by simp[results,Tryz.results125,go_sem]) rfl ⟨by rw[HE.out,if_pos HS.out,if_pos HN.out];rfl,by repeat(first | with_reducible exact Below.refl _ _ | refine Below.alloc ?_ (by simp<;>omega) _ | refine Below.setCell ?_ (by simp<;>omega) _ | refine below_drewN ?_ _ | refine Below.drew ?_)⟩
  ·have hr:(ne==1)=false:=beq_eq_false_iff_ne.2 hn
   have HN:=Lib.hid hn
   clear hn
   go_enter Tryz.func125,Tryz.ntmps125
   go_wp2_with fail
   refine bodyPost_ret (v:= .agg #[.int .i64 0,.bool m,.int .i64 vl]) (by simp[results,Tryz.results125,go_sem]) rfl ⟨by rw[HE.out,if_pos HS.out,if_neg HN.out];rfl,by repeat(first | with_reducible exact Below.refl _ _ | refine Below.alloc ?_ (by simp<;>omega) _ | refine Below.setCell ?_ (by simp<;>omega) _ | refine below_drewN ?_ _ | refine Below.drew ?_)⟩
 ·have hq:(st==5)=false:=beq_eq_false_iff_ne.2 hs
  have hq':(st !=5)=true:=by simp[hs]
  have HS:=Lib.hid hs
  clear hs
  go_enter Tryz.func125,Tryz.ntmps125
  go_wp2_with fail
  refine bodyPost_ret (v:= .agg #[.int .i64 5,.bool false,.int .i64 0]) (by simp[results,Tryz.results125,go_sem]) rfl ⟨by rw[HE.out,if_neg HS.out];rfl,by repeat(first | with_reducible exact Below.refl _ _ | refine Below.alloc ?_ (by simp<;>omega) _ | refine Below.setCell ?_ (by simp<;>omega) _ | refine below_drewN ?_ _ | refine Below.drew ?_)⟩
theorem Aq (x n:Int) (a m:Nat) (hx:0≤x∧x<2 ^ a) (hn:0≤n∧n<2 ^ m) (ham:a+m≤62):bits .or .u64 x (n*2 ^ a)=x+n*2 ^ a:=by
 obtain⟨x,rfl⟩:=Int.eq_ofNat_of_zero_le hx.1
 obtain⟨n,rfl⟩:=Int.eq_ofNat_of_zero_le hn.1
 have hx':x<2 ^ a:=by have:=hx.2;exact_mod_cast this
 have hn':n<2 ^ m:=by have:=hn.2;exact_mod_cast this
 have h1:n*2 ^ a<2 ^ 62:=by
  have h2:n*2 ^ a<2 ^ m*2 ^ a:=Nat.mul_lt_mul_of_pos_right hn' (Nat.two_pow_pos _)
  rw[←Nat.pow_add] at h2
  exact Nat.lt_of_lt_of_le h2 (Nat.pow_le_pow_right (by omega) (by omega))
 have h3:x<2 ^ 62:=Nat.lt_of_lt_of_le hx' (Nat.pow_le_pow_right (by omega) (by omega))
 have e:((n:Int)*2 ^ a)=((n*2 ^ a:Nat):Int):=by simp
 rw[e,bits_or_u64_nat _ _ (by omega) (by omega),Nat.or_comm,Nat.mul_comm,←Nat.two_pow_add_eq_or_of_lt hx']
 push_cast
 omega
theorem jq (x n p q:Int) (a m:Nat) (hp:2 ^ a=p) (hq:2 ^ m=q) (hx:0≤x∧x<p) (hn:0≤n∧n<q) (ham:a+m≤62):bits .or .u64 x (n*p)=x+n*p:=by
 subst hp hq;exact Aq x n a m hx hn ham
def GZ (W:Wd) (w:World) (e:Ending) (w':World):Prop:=e= .returned (.tuple #[.int .u64 (eU W),.int .i64 (if W.fit then 0 else 2)])∧Below w.heap.size w w'
def lz (W:Wd):Nat→Bool
 | 0=>true
 | 1=>du W.key 1024
 | 2=>du W.key 1024 && du W.next 512
 | 3=>du W.key 1024 && du W.next 512
 | 4=>du W.key 1024 && (du W.next 512 && du W.claim 32)
 | _=>W.fit
def rf (W:Wd):Nat→Int
 | 0=>0
 | 1=>W.key
 | 2=>W.key+W.next*1024
 | 3=>W.key+W.next*1024+cz W.mark*524288
 | 4=>W.key+W.next*1024+cz W.mark*524288+W.claim*1048576
 | _=>W.num
theorem tP (W:Wd) (w:World):Calls Tryz.prog 161 #[W.val] w (GZ W w):=by
 obtain⟨k,n,m,c,v⟩:=W
 have HP:Hid (eU ⟨k,n,m,c,v⟩=if (⟨k,n,m,c,v⟩:Wd).fit then (⟨k,n,m,c,v⟩:Wd).num else 0):=Lib.hid rfl
 have iT:Hid ((⟨k,n,m,c,v⟩:Wd).fit=(du k 1024 && (du n 512 && (du c 32 && du v 262144)))):=Lib.hid rfl
 simp only[Wd.val]
 go_enter Tryz.func161,Tryz.ntmps161
 go_wp2_with fail
 have hb0:Below w.heap.size w (w.alloc (.cells #[.int .i64 k,.int .i64 n,.bool m,.int .i64 c,.int .i64 v] 198)):=(Below.refl _ _).alloc (Nat.le_refl _) _
 generalize(w.alloc (.cells #[.int .i64 k,.int .i64 n,.bool m,.int .i64 c,.int .i64 v] 198))=w1 at *
 refine(tF ⟨k,n,m,c,v⟩ w1).mono ?_
 rintro e w2 ⟨rfl,hb2⟩
 have de:=hb0.trans (hb2.mono hb0.size)
 clear hb0 hb2
 simp only[Wd.EX]
 go_wp2_with fail
 obtain⟨b0,hbq⟩:∃ b0,w.heap.size=b0:=⟨_,rfl⟩
 have hs2:=de.size
 rw[hbq] at de hs2
 have E7:=Lib.hid hbq
 clear hbq
 go_loopw [4,5,10] (fun xv av i wr=>∃ j:Nat,j≤5∧i= .int .i64 j∧xv= .int .u64 (rf ⟨k,n,m,c,v⟩ j)∧av= .int .i64 ([0,10,19,20,25,43].getD j 0)∧Hid (lz ⟨k,n,m,c,v⟩ j=true)∧Below b0 w wr∧b0≤wr.heap.size) (fun _ _ i _=>5 - (intOf i).toNat)
 case atStart=>exact⟨0,by omega,rfl,rfl,rfl,Lib.hid rfl,de,hs2⟩
 case round=>
  obtain⟨j,hj,rfl,rfl,rfl,hft,hbr,hbs⟩:=hrel
  have h6:j=0∨j=1∨j=2∨j=3∨j=4∨j=5:=by omega
  rcases h6 with rfl | rfl | rfl | rfl | rfl | rfl
  ·rw[show rf ⟨k,n,m,c,v⟩ 0=0 from rfl]
   simp only[List.getD_cons_zero]
   have hix:∀ W:World,(Instr.index 256 (.agg #[.int .i64 k,.int .i64 10,.int .i64 n,.int .i64 9,.int .i64 (cz m),.int .i64 1,.int .i64 c,.int .i64 5,.int .i64 v,.int .i64 18]) (.int .i64 0)).run Tryz.prog W= .ok (.agg #[.int .i64 (k),.int .i64 10]) W:=fun _=>by kernel_rfl
   go_wp2_with fail
   have hx0:=a8.new wr 255 #[.int .i64 (k),.int .i64 10]
   have hb3:Below wr.heap.size wr (wr.alloc (.cells #[.int .i64 (k),.int .i64 10] 255)):=(Below.refl _ _).alloc (Nat.le_refl _) _
   generalize(wr.alloc (.cells #[.int .i64 (k),.int .i64 10] 255))=w3 at *
   refine(gj (k) 10 1024 w3 (by omega) (by decide) 10 rfl).mono ?_
   rintro e w4 ⟨rfl,hb4⟩
   have hx4:=hx0.step hb4
   have hc4:=hx4.cells
   have gM:=hb3.trans (hb4.mono hb3.size)
   have mr:=hbr.trans (gM.mono hbs)
   have sa:b0≤w4.heap.size:=Nat.le_trans hbs gM.size
   obtain⟨f,hf⟩:∃ f,du (k) 1024=f:=⟨_,rfl⟩
   rw[hf]
   clear hx0 hix
   have hbi:=ei m
   cases f
   ·have HF:=Lib.hid hf
    clear hf
    go_wp2_with fail
    go_ret2
    refine⟨?_,by rw[E7.out];exact mr⟩
    have hno:(⟨k,n,m,c,v⟩:Wd).fit=false:=by rw[iT.out,HF.out];simp
    rw[HP.out,hno];rfl
   ·have hr:=aI hf
    have hor:=jq 0 (k) 1 1024 0 10 (by decide) (by decide) (by omega) hr (by omega)
    have jH:=Lib.hid hor
    have od:Hid (lz ⟨k,n,m,c,v⟩ 1=true):=Lib.hid (hf)
    clear hf hor
    go_wp2_with fail
    refine⟨⟨1,by omega,rfl,?_,rfl,od,mr,sa⟩,by simp[intOf]⟩
    exact congrArg (Value.int .u64) (by first | exact jH.out | (have hk:=jH.out;simp only[Int.mul_one,Int.zero_add] at hk;exact hk))
  ·rw[show rf ⟨k,n,m,c,v⟩ 1=k from rfl]
   simp only[List.getD_cons_zero,List.getD_cons_succ]
   have hix:∀ W:World,(Instr.index 256 (.agg #[.int .i64 k,.int .i64 10,.int .i64 n,.int .i64 9,.int .i64 (cz m),.int .i64 1,.int .i64 c,.int .i64 5,.int .i64 v,.int .i64 18]) (.int .i64 1)).run Tryz.prog W= .ok (.agg #[.int .i64 (n),.int .i64 9]) W:=fun _=>by kernel_rfl
   go_wp2_with fail
   have hx0:=a8.new wr 255 #[.int .i64 (n),.int .i64 9]
   have hb3:Below wr.heap.size wr (wr.alloc (.cells #[.int .i64 (n),.int .i64 9] 255)):=(Below.refl _ _).alloc (Nat.le_refl _) _
   generalize(wr.alloc (.cells #[.int .i64 (n),.int .i64 9] 255))=w3 at *
   refine(gj (n) 9 512 w3 (by omega) (by decide) 9 rfl).mono ?_
   rintro e w4 ⟨rfl,hb4⟩
   have hx4:=hx0.step hb4
   have hc4:=hx4.cells
   have gM:=hb3.trans (hb4.mono hb3.size)
   have mr:=hbr.trans (gM.mono hbs)
   have sa:b0≤w4.heap.size:=Nat.le_trans hbs gM.size
   obtain⟨f,hf⟩:∃ f,du (n) 512=f:=⟨_,rfl⟩
   rw[hf]
   clear hx0 hix
   have hbi:=ei m
   have h0:0≤k∧k<1024:=aI hft.out
   cases f
   ·have HF:=Lib.hid hf
    clear hf
    go_wp2_with fail
    go_ret2
    refine⟨?_,by rw[E7.out];exact mr⟩
    have hno:(⟨k,n,m,c,v⟩:Wd).fit=false:=by rw[iT.out,HF.out];simp
    rw[HP.out,hno];rfl
   ·have hr:=aI hf
    have hor:=jq k (n) 1024 512 10 9 (by decide) (by decide) (by omega) hr (by omega)
    have jH:=Lib.hid hor
    have od:Hid (lz ⟨k,n,m,c,v⟩ 2=true):=Lib.hid (by rw[lz,a6 h0,hf];rfl)
    clear hf hor
    go_wp2_with fail
    refine⟨⟨2,by omega,rfl,?_,rfl,od,mr,sa⟩,by simp[intOf]⟩
    exact congrArg (Value.int .u64) (by first | exact jH.out | (have hk:=jH.out;simp only[Int.mul_one,Int.zero_add] at hk;exact hk))
  ·rw[show rf ⟨k,n,m,c,v⟩ 2=k+n*1024 from rfl]
   simp only[List.getD_cons_zero,List.getD_cons_succ]
   have hix:∀ W:World,(Instr.index 256 (.agg #[.int .i64 k,.int .i64 10,.int .i64 n,.int .i64 9,.int .i64 (cz m),.int .i64 1,.int .i64 c,.int .i64 5,.int .i64 v,.int .i64 18]) (.int .i64 2)).run Tryz.prog W= .ok (.agg #[.int .i64 (cz m),.int .i64 1]) W:=fun _=>by kernel_rfl
   go_wp2_with fail
   have hx0:=a8.new wr 255 #[.int .i64 (cz m),.int .i64 1]
   have hb3:Below wr.heap.size wr (wr.alloc (.cells #[.int .i64 (cz m),.int .i64 1] 255)):=(Below.refl _ _).alloc (Nat.le_refl _) _
   generalize(wr.alloc (.cells #[.int .i64 (cz m),.int .i64 1] 255))=w3 at *
   refine(gj (cz m) 1 2 w3 (by omega) (by decide) 1 rfl).mono ?_
   rintro e w4 ⟨rfl,hb4⟩
   have hx4:=hx0.step hb4
   have hc4:=hx4.cells
   have gM:=hb3.trans (hb4.mono hb3.size)
   have mr:=hbr.trans (gM.mono hbs)
   have sa:b0≤w4.heap.size:=Nat.le_trans hbs gM.size
   obtain⟨f,hf⟩:∃ f,du (cz m) 2=f:=⟨_,rfl⟩
   rw[hf]
   clear hx0 hix
   have hbi:=ei m
   have h0:0≤k∧k<1024:=aI (Bool.and_eq_true_iff.1 hft.out).1
   have h1:0≤n∧n<512:=aI (Bool.and_eq_true_iff.1 hft.out).2
   cases f
   ·exfalso
    rw[a6 ⟨hbi.1,by omega⟩] at hf;cases hf
   ·have hr:=aI hf
    have hor:=jq (k+n*1024) (cz m) 524288 2 19 1 (by decide) (by decide) (by omega) hr (by omega)
    have jH:=Lib.hid hor
    have od:Hid (lz ⟨k,n,m,c,v⟩ 3=true):=Lib.hid (by rw[lz,a6 h0,a6 h1];rfl)
    clear hf hor
    go_wp2_with fail
    refine⟨⟨3,by omega,rfl,?_,rfl,od,mr,sa⟩,by simp[intOf]⟩
    exact congrArg (Value.int .u64) (by first | exact jH.out | (have hk:=jH.out;simp only[Int.mul_one,Int.zero_add] at hk;exact hk))
  ·rw[show rf ⟨k,n,m,c,v⟩ 3=k+n*1024+cz m*524288 from rfl]
   simp only[List.getD_cons_zero,List.getD_cons_succ]
   have hix:∀ W:World,(Instr.index 256 (.agg #[.int .i64 k,.int .i64 10,.int .i64 n,.int .i64 9,.int .i64 (cz m),.int .i64 1,.int .i64 c,.int .i64 5,.int .i64 v,.int .i64 18]) (.int .i64 3)).run Tryz.prog W= .ok (.agg #[.int .i64 (c),.int .i64 5]) W:=fun _=>by kernel_rfl
   go_wp2_with fail
   have hx0:=a8.new wr 255 #[.int .i64 (c),.int .i64 5]
   have hb3:Below wr.heap.size wr (wr.alloc (.cells #[.int .i64 (c),.int .i64 5] 255)):=(Below.refl _ _).alloc (Nat.le_refl _) _
   generalize(wr.alloc (.cells #[.int .i64 (c),.int .i64 5] 255))=w3 at *
   refine(gj (c) 5 32 w3 (by omega) (by decide) 5 rfl).mono ?_
   rintro e w4 ⟨rfl,hb4⟩
   have hx4:=hx0.step hb4
   have hc4:=hx4.cells
   have gM:=hb3.trans (hb4.mono hb3.size)
   have mr:=hbr.trans (gM.mono hbs)
   have sa:b0≤w4.heap.size:=Nat.le_trans hbs gM.size
   obtain⟨f,hf⟩:∃ f,du (c) 32=f:=⟨_,rfl⟩
   rw[hf]
   clear hx0 hix
   have hbi:=ei m
   have h0:0≤k∧k<1024:=aI (Bool.and_eq_true_iff.1 hft.out).1
   have h1:0≤n∧n<512:=aI (Bool.and_eq_true_iff.1 hft.out).2
   cases f
   ·have HF:=Lib.hid hf
    clear hf
    go_wp2_with fail
    go_ret2
    refine⟨?_,by rw[E7.out];exact mr⟩
    have hno:(⟨k,n,m,c,v⟩:Wd).fit=false:=by rw[iT.out,HF.out];simp
    rw[HP.out,hno];rfl
   ·have hr:=aI hf
    have hor:=jq (k+n*1024+cz m*524288) (c) 1048576 32 20 5 (by decide) (by decide) (by omega) hr (by omega)
    have jH:=Lib.hid hor
    have od:Hid (lz ⟨k,n,m,c,v⟩ 4=true):=Lib.hid (by rw[lz,a6 h0,a6 h1,hf];rfl)
    clear hf hor
    go_wp2_with fail
    refine⟨⟨4,by omega,rfl,?_,rfl,od,mr,sa⟩,by simp[intOf]⟩
    exact congrArg (Value.int .u64) (by first | exact jH.out | (have hk:=jH.out;simp only[Int.mul_one,Int.zero_add] at hk;exact hk))
  ·rw[show rf ⟨k,n,m,c,v⟩ 4=k+n*1024+cz m*524288+c*1048576 from rfl]
   simp only[List.getD_cons_zero,List.getD_cons_succ]
   have hix:∀ W:World,(Instr.index 256 (.agg #[.int .i64 k,.int .i64 10,.int .i64 n,.int .i64 9,.int .i64 (cz m),.int .i64 1,.int .i64 c,.int .i64 5,.int .i64 v,.int .i64 18]) (.int .i64 4)).run Tryz.prog W= .ok (.agg #[.int .i64 (v),.int .i64 18]) W:=fun _=>by kernel_rfl
   go_wp2_with fail
   have hx0:=a8.new wr 255 #[.int .i64 (v),.int .i64 18]
   have hb3:Below wr.heap.size wr (wr.alloc (.cells #[.int .i64 (v),.int .i64 18] 255)):=(Below.refl _ _).alloc (Nat.le_refl _) _
   generalize(wr.alloc (.cells #[.int .i64 (v),.int .i64 18] 255))=w3 at *
   refine(gj (v) 18 262144 w3 (by omega) (by decide) 18 rfl).mono ?_
   rintro e w4 ⟨rfl,hb4⟩
   have hx4:=hx0.step hb4
   have hc4:=hx4.cells
   have gM:=hb3.trans (hb4.mono hb3.size)
   have mr:=hbr.trans (gM.mono hbs)
   have sa:b0≤w4.heap.size:=Nat.le_trans hbs gM.size
   obtain⟨f,hf⟩:∃ f,du (v) 262144=f:=⟨_,rfl⟩
   rw[hf]
   clear hx0 hix
   have hbi:=ei m
   have h0:0≤k∧k<1024:=aI (Bool.and_eq_true_iff.1 hft.out).1
   have h1:0≤n∧n<512:=aI (Bool.and_eq_true_iff.1 (Bool.and_eq_true_iff.1 hft.out).2).1
   have h3:0≤c∧c<32:=aI (Bool.and_eq_true_iff.1 (Bool.and_eq_true_iff.1 hft.out).2).2
   cases f
   ·have HF:=Lib.hid hf
    clear hf
    go_wp2_with fail
    go_ret2
    refine⟨?_,by rw[E7.out];exact mr⟩
    have hno:(⟨k,n,m,c,v⟩:Wd).fit=false:=by rw[iT.out,HF.out];simp
    rw[HP.out,hno];rfl
   ·have hr:=aI hf
    have hor:=jq (k+n*1024+cz m*524288+c*1048576) (v) 33554432 262144 25 18 (by decide) (by decide) (by omega) hr (by omega)
    have jH:=Lib.hid hor
    have od:Hid (lz ⟨k,n,m,c,v⟩ 5=true):=Lib.hid ((iT.out).trans (by rw[a6 h0,a6 h1,a6 h3,hf];rfl))
    clear hf hor
    go_wp2_with fail
    refine⟨⟨5,by omega,rfl,?_,rfl,od,mr,sa⟩,by simp[intOf]⟩
    exact congrArg (Value.int .u64) (by first | exact jH.out | (have hk:=jH.out;simp only[Int.mul_one,Int.zero_add] at hk;exact hk))
  ·simp only[List.getD_cons_zero,List.getD_cons_succ]
   go_wp2_with fail
   go_ret2
   refine⟨?_,by rw[E7.out];exact hbr⟩
   have hyes:(⟨k,n,m,c,v⟩:Wd).fit=true:=hft.out
   rw[HP.out,hyes];rfl
end Go.Proofs.YtbcnnhlpilmmbaaGreat
