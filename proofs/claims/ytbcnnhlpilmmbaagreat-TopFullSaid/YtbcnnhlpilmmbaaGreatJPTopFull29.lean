/- Texts that are wanted for PTopFull.
   Conditions: none. -/
import Derived.Test.YtbcnnhlpilmmbaaGreatJPTopFull28
set_option maxRecDepth 100000
set_option maxHeartbeats 6400000
namespace Go.Proofs.YtbcnnhlpilmmbaaGreat
open Go Go.RowKit
def cJ (N:Nat) (P:Nat→Option Nat):Array Value:=((List.range N).map fun u=>Value.map (P u)).toArray
theorem gh (P:Nat→Option Nat) {N v:Nat} (h:v<N):(cJ N P)[v]? =some (.map (P v)):=by
 simp[cJ,h]
theorem ln (P:Nat→Option Nat) {N v:Nat} (x:Option Nat):(cJ N P).setIfInBounds v (.map x)=cJ N (fun u=>if u=v then x else P u):=by
 unfold cJ
 apply Array.ext'
 apply List.ext_getElem?
 intro i
 simp only[Array.toList_setIfInBounds,List.getElem?_set,List.getElem?_map,List.length_map,List.length_range]
 by_cases hi:i<N
 ·by_cases e:v=i
  ·subst e;simp[hi]
  ·rw[if_neg e,List.getElem?_range hi]
   simp only[Option.map_some]
   rw[if_neg (fun e2=>e e2.symm)]
 ·have hr:(List.range N)[i]? =none:=by simp;omega
  rw[hr]
  by_cases e:v=i
  ·subst e;simp[hi]
  ·rw[if_neg e];rfl
theorem mc {N v mb:Nat} (hk:v<N):∀ W:World,(Instr.indexAt 33 (.slice (some ⟨mb,0,none⟩) N N) (.int .i64 (v:Int))).run Tryz.prog W= .ok (.pointer (some ⟨mb,v,none⟩)) W:=by
 intro W
 rw[run_indexAt_slice (h:=by rw[show Tryz.prog.elem 33=37 by simp[Program.elem,Tryz.underlying33]];exact Tryz.underlying33),if_pos (by omega),show Tryz.prog.elem 33=37 by simp[Program.elem,Tryz.underlying33]]
 have hsz:(Tryz.prog.info? 37).map (·.size)=some 1:=by kernel_rfl
 obtain⟨i,hi,hs⟩:=Option.map_eq_some_iff.1 hsz
 simp[sizeOf,typeInfo,hi,hs,Addr.add]
 intro h0;subst h0;rfl
theorem jw:∀ (n:Nat) (l:List Int),l.Nodup→(∀ x,x∈l→1≤x∧x≤n)→l.length≤n
 | 0,l,_,h=>by
  cases l with
  | nil=>exact Nat.le_refl _
  | cons x r=>have:=h x (List.mem_cons_self ..);omega
 | n+1,l,hd,h1=>by
  have hp:=jw n (l.erase ((n+1:Nat):Int)) (hd.erase _) (fun x hx=>by
   have h3:=h1 x (List.mem_of_mem_erase hx)
   have h4:=((List.Nodup.mem_erase_iff hd).1 hx).1
   omega)
  by_cases hm:((n+1:Nat):Int)∈l
  ·rw[List.length_erase_of_mem hm] at hp;omega
  ·rw[List.erase_of_not_mem hm] at hp;omega
structure pY (nd:Int) (Q:Nat→Int→Prop) (Z Z':Zs):Prop where
 none_:∀ u,Z u=none→Z' u=none
 some_:∀ u z,Z u=some z→∃ l,Z' u=some (z.1,l)∧(∀ n,n∈z.2→n∈l)∧(∀ n,n∈l→n∈z.2∨(1≤n∧n≤nd))∧∀ n,Q u n→n∈l
theorem pY.refl {nd:Int} {Q:Nat→Int→Prop} (Z:Zs) (h:∀ u n,¬ Q u n):pY nd Q Z Z:=⟨fun _ h=>h,fun u z hz=>⟨z.2,hz,fun _ h=>h,fun _ h=> .inl h,fun n hq=>absurd hq (h u n)⟩⟩
theorem pY.mono {nd:Int} {Q Q':Nat→Int→Prop} {Z Z':Zs} (h:pY nd Q Z Z') (hq:∀ u n,Q' u n→Q u n):pY nd Q' Z Z':=⟨h.none_,fun u z hz=>by
 obtain⟨l,h1,h2,h3,h4⟩:=h.some_ u z hz
 exact⟨l,h1,h2,h3,fun n hn=>h4 n (hq u n hn)⟩⟩
theorem pY.put {nd:Int} {Q Q':Nat→Int→Prop} {Z Z':Zs} (h:pY nd Q Z Z') {v:Nat} {y:Nat×List Int} (hv:Z' v=some y) {k:Int} (hk:1≤k∧k≤nd) (hq:∀ u n,Q' u n→Q u n∨(u=v∧n=k)):pY nd Q' Z (fun u=>if u=v then some (y.1,if y.2.contains k then y.2 else k::y.2) else Z' u):=by
 refine⟨fun u hu=> ?_,fun u z hz=> ?_⟩
 ·have:=h.none_ u hu
  by_cases e:u=v
  ·subst e;rw[hv] at this;cases this
  ·simp only[if_neg e];exact this
 ·obtain⟨l,h1,h2,h3,h4⟩:=h.some_ u z hz
  by_cases e:u=v
  ·subst e
   rw[hv] at h1
   injection h1 with h1
   subst h1
   simp only[if_true]
   have hm:∀ n,n∈(if l.contains k then l else k::l)↔n∈l∨n=k:=fun n=>by
    split
    ·rename_i hc
     exact⟨.inl,fun h=>h.elim id (fun e=>by subst e;simpa using hc)⟩
    ·simp only[List.mem_cons]
     exact⟨fun h=>h.elim .inr .inl,fun h=>h.elim .inr .inl⟩
   refine⟨_,rfl,fun n hn=>(hm n).2 (.inl (h2 n hn)),fun n hn=> ?_,fun n hn=>(hm n).2 ?_⟩
   ·rcases(hm n).1 hn with h5 | h5
    ·exact h3 n h5
    ·exact .inr (by omega)
   ·rcases hq u n hn with h5 | ⟨-,h5⟩
    ·exact .inl (h4 n h5)
    ·exact .inr h5
  ·simp only[if_neg e]
   exact⟨l,h1,h2,h3,fun n hn=>(hq u n hn).elim (h4 n) (fun h5=>absurd h5.1 e)⟩
theorem pY.skip {nd:Int} {Q Q':Nat→Int→Prop} {Z Z':Zs} (h:pY nd Q Z Z') {v:Nat} (hv:Z v=none) (hq:∀ u n,Q' u n→u≠v→Q u n):pY nd Q' Z Z':=⟨h.none_,fun u z hz=>by
 obtain⟨l,h1,h2,h3,h4⟩:=h.some_ u z hz
 exact⟨l,h1,h2,h3,fun n hn=>h4 n (hq u n hn fun e=>by subst e;rw[hv] at hz;cases hz)⟩⟩
def Qn (M:ML) (m:Mm) (N:Nat) (k:Int) (v:Nat) (u:Nat) (n:Int):Prop:=u<N∧1≤n∧(n<k∨(n=k∧u<v))∧ld M m (M.L.life n) % 2≠0
variable {w0 w:World} {b:Nat}
theorem vD {E:fP} {e:aZ} {K:List Ob} {Z:Zs} {th nd:Int} {lb eb sb mb N:Nat} {P:Nat→Option Nat} (h:jv w0 b E e K Z w) (Eh:E.M.L=⟨th,nd⟩) (hN:N≤1000) (Cf:(⟨th,nd⟩:Ly).Ok)
  (hl:(⟨lb,31,#[.int .i64 th,.int .i64 nd]⟩:Ob)∈K) (he:(⟨eb,28,#[.pointer (some ⟨b,0,none⟩)]⟩:Ob)∈K) (hs:(⟨sb,33,#[.slice (some ⟨mb,0,none⟩) N N]⟩:Ob)∈K) (hm:(⟨mb,37,cJ N P⟩:Ob)∈K)
  (hP:∀ u,(Z u).map (·.1)=P u) (hZ:∀ u z,Z u=some z→∀ n,n∈z.2→1≤n∧n≤nd):
  Calls Tryz.prog 10 #[.pointer (some ⟨lb,0,none⟩),.pointer (some ⟨eb,0,none⟩),.pointer (some ⟨sb,0,none⟩)] w fun r w'=>r= .returned (.tuple #[])∧∃ Z',pY nd (fun u n=>u<N∧1≤n∧n≤nd∧ld E.M e.m (E.M.L.life n) % 2≠0) Z Z'∧jv w0 b E e K Z' w':=by
 have hnd:=Cf.nd
 simp only at hnd
 have HL:=Lib.hid hl
 have HE:=Lib.hid he
 have HS:=Lib.hid hs
 have HM:=Lib.hid hm
 have HP:=Lib.hid hP
 have HZ:=Lib.hid hZ
 have Gj:=Lib.hid Eh
 have F9:=h.ok.mem.rng
 clear hl he hs hm hP hZ
 go_enter Tryz.func10,Tryz.ntmps10
 go_wp2_with fail
 go_loopw [3] (fun i wr=>∃ k:Nat,1≤k∧(k:Int)≤nd+1∧i= .int .i64 (k:Int)∧∃ Zk,Hid (pY nd (Qn E.M e.m N k 0) Z Zk)∧jv w0 b E e K Zk wr) (fun i _=>(nd+1).toNat - (intOf i).toNat)
 case atStart=>exact⟨1,by omega,by omega,rfl,Z,Lib.hid (.refl Z fun u n hq=>by unfold Qn at hq;omega),h⟩
 case round=>
  clear h
  obtain⟨k,hk1,hk2,rfl,Zk,HG,h⟩:=hrel
  have hlc:=(h.blk HL.out).cells
  by_cases hlt:(k:Int)≤nd
  ·have dk:decide ((k:Int)≤nd)=true:=decide_eq_true hlt
   have CB:=(h.blk HE.out).cells
   have hlb:=h.blk HL.out
   have heb:=h.blk HE.out
   go_wp2_with fail
   have q1:=Later.cells (B:=wr.heap.size) hlb hlb.lt
   have q2:=Later.cells (B:=wr.heap.size) heb heb.lt
   have e6:wrap64 ((k:Int)+1)=((k+1:Nat):Int):=by rw[IntWalk.wrap64_in _ (by omega)];omega
   refine az (fun w'=>∃ q:Later wr.heap.size wr,w'=q.val) 4 [] [0,1,2] [3,4,5,6] (by kernel_rfl) (by kernel_rfl) (Later.bI (Below.refl _ _).drew) ?_
   refine af ?_
   try simp only[au,List.map_cons,List.map_nil,List.getD_cons_zero,List.getD_cons_succ]
   repeat(go_big_quiet_step (fail))
   refine wpQuiet_nil ?_
   refine ay rfl (fun K' hK'=> ?_)
   go_simp
   ((with_reducible refine(jF ⟨th,nd⟩ Cf k (by omega) _).mono ?_);rintro r w1 ⟨rfl,hb1⟩)
   have hbx:Below wr.heap.size wr w1:=(Below.refl _ _).drew.trans hb1
   refine hK' _ _ (Later.bI (hbx)) ?_
   clear hK' K'
   refine ae _ _ _ (by kernel_rfl) ?_
   try simp only[au,List.map_cons,List.map_nil,List.getD_cons_zero,List.getD_cons_succ]
   clear q1 q2 hlc CB hlb heb
   replace h:=h.step hbx
   clear hbx hb1
   go_wp2_with fail
   refine(Ek h _).mono ?_
   rintro r w' ⟨rfl,rfl⟩
   have hxr:=nR (M:=E.M) F9 ((⟨th,nd⟩:Ly).life k)
   obtain⟨x,hx⟩:∃ x,ld E.M e.m ((⟨th,nd⟩:Ly).life k)=x:=⟨_,rfl⟩
   simp only[hx]
   rw[hx] at hxr
   have HX:=Lib.hid hx
   clear hx
   by_cases hev:x % 2=0
   ·go_wp2_with fail
    refine NoPanic.normal ?_
    go_wp2_with fail
    go_roundw
    case rel=>exact⟨k+1,by omega,by omega,by go_num,Zk,Lib.hid (HG.out.mono fun u n hq=>by
     unfold Qn at hq⊢
     refine⟨hq.1,hq.2.1,?_,hq.2.2.2⟩
     rcases hq.2.2.1 with h5 | h5
     ·by_cases h6:n=(k:Int)
      ·subst h6
       exact absurd (by rw[Gj.out,HX.out];exact hev) hq.2.2.2
      ·exact .inl (by omega)
     ·omega),h⟩
    case measure=>simp[intOf]<;>omega
   ·have hsc:=(h.blk HS.out).cells
    go_wp2_with fail
    refine NoPanic.normal ?_
    go_wp2_with fail
    go_loopw [20] (fun i wj=>∃ v:Nat,v≤N∧i= .int .i64 (v:Int)∧∃ Zv,Hid (pY nd (Qn E.M e.m N k v) Z Zv)∧jv w0 b E e K Zv wj) (fun i _=>N - (intOf i).toNat)
    case atStart=>exact⟨0,by omega,rfl,Zk,HG,h⟩
    case round=>
     clear h HG hsc
     obtain⟨v,CC,rfl,Zv,HG,h⟩:=hrel
     by_cases hv:v<N
     ·have dv:decide ((v:Int)<(N:Int))=true:=decide_eq_true (by omega)
      have hsc:=(h.blk HS.out).cells
      have hmc:wr.cell? ⟨mb,v,none⟩=some (.map (P v)):=by rw[(h.blk HM.out).cell];exact gh P hv
      have I7:=mc (mb:=mb) hv
      have e7:wrap64 ((v:Int)+1)=((v+1:Nat):Int):=by rw[IntWalk.wrap64_in _ (by omega)];omega
      have hpv:=HP.out v
      have qn:∀ (W:World) (r:Option Nat),(binOp .neq 37 (.map r) (.map none)).run Tryz.prog W= .ok (.bool (!r.isNone)) W:=fun W r=>run_neq_map_nil W _ _ _ r Tryz.underlying37
      cases hzv:Z v with
      | none=>
       rw[hzv] at hpv
       rw[←hpv] at hmc
       simp only[Option.map_none] at hmc
       go_wp2_with fail
       go_roundw
       case rel=>exact⟨v+1,by omega,by go_num,Zv,Lib.hid (HG.out.skip hzv fun u n hq hu=>by
        unfold Qn at hq⊢
        omega),h⟩
       case measure=>simp[intOf]<;>omega
      | some z=>
       rw[hzv] at hpv
       rw[←hpv] at hmc
       simp only[Option.map_some] at hmc
       obtain⟨l,hl1,-,hl3,-⟩:=HG.out.some_ v z hzv
       have hcm:=h.map hl1
       have hkey:=nS (k:Int) (by omega)
       obtain⟨a,har,hlook⟩:=hcm.look (k:Int) _ hkey
       have EM:∀ n,n∈l→1≤n∧n≤((nd.toNat:Nat):Int):=fun n hn=>by
        rcases hl3 n hn with h5 | h5
        ·have:=HZ.out v z hzv n h5;omega
        ·omega
       have hlen:=jw nd.toNat l hcm.1 EM
       obtain⟨w2,hput,hc2,hg2⟩:=hcm.put (by simp only;omega) (k:Int) _ hkey (wrap64 (a+1)) (kS _)
       simp only at hlook hput hc2 hg2
       have h2:=h.put hl1 hg2 hc2
       have HW:=Lib.hid (HG.out.put (Q':=Qn E.M e.m N k (v+1)) hl1 (k:=(k:Int)) (by omega) (fun u n hq=>by
        unfold Qn at hq⊢
        omega))
       clear hcm hl1 hl3 EM hlen hc2 hg2 hkey hpv hzv
       go_wp2_with fail
       go_roundw
       case rel=>exact⟨v+1,by omega,by go_num,_,HW,h2⟩
       case measure=>simp[intOf]<;>omega
     ·have dv:decide ((v:Int)<(N:Int))=false:=decide_eq_false (by omega)
      obtain rfl:v=N:=by omega
      go_wp2_with fail
      go_roundw
      case rel=>exact⟨k+1,by omega,by omega,by go_num,Zv,Lib.hid (HG.out.mono fun u n hq=>by
       unfold Qn at hq⊢
       omega),h⟩
      case measure=>simp[intOf]<;>omega
  ·have dk:decide ((k:Int)≤nd)=false:=decide_eq_false (by omega)
   go_wp2_with fail
   go_end0
   exact⟨rfl,Zk,HG.out.mono fun u n hq=>by unfold Qn;rw[Gj.out];exact⟨hq.1,hq.2.1,.inl (by omega),hq.2.2.2⟩,h⟩
variable {M:ML}
theorem jn.swap {e:aZ} {S S':Int→Int→Prop} (h:jn M e S) (ho:dG M e) (hS:∀ v:Nat,v<M.L.th.toNat→(e.ws v).now≠none→∀ n,S v n→S' v n):jn M e S':=by
 have hodd:∀ u:Nat,u<M.L.th.toNat→(e.ws u).now≠none→qY M e.m (S' u):=fun u hu hn n h1 h2 h3=>hS u hu hn n (h.odd u hu hn n h1 h2 h3)
 refine⟨h.age,hodd,fun u hu d hd=> ?_,fun u hu d hd ha ht=> ?_⟩
 ·have hn:(e.ws u).now≠none:=by rw[hd];simp
  refine(h.ops u hu d hd).stay ho.lay ho.mem.rng ((ho.ws u hu).now d hd).1 (l6.refl _ _) (pT.refl _ _) (fun p hp=>(h.age.bX u hu d hd p hp).2.1) ⟨hS u hu hn,hodd u hu hn⟩ fun v h0 h1 hs=> ?_
  obtain⟨k,rfl⟩:∃ k:Nat,v=k:=⟨v.toNat,by omega⟩
  obtain⟨d',hd',-⟩:=ho.waits (u:=k) (by omega) (by omega) (by omega)
  have hk:(e.ws k).now≠none:=by rw[hd'];simp
  exact⟨hS k (by omega) hk,hodd k (by omega) hk,id⟩
 ·have hn:(e.ws u).now≠none:=by rw[hd];simp
  have:=h.KW u hu d hd ha ht
  exact⟨this.1,fun n h1 h2=>hS u hu hn n (this.2 n h1 h2)⟩
def SZ (Z:Zs):Int→Int→Prop:=fun v n=>∃ z,Z v.toNat=some z∧n∈z.2
structure Cg (M:ML) (sh nd:Int) (ops:List (List Opn)) (e:aZ) (Z:Zs):Prop where
 full:jn M e (SZ Z)
 rng:∀ v z,Z v=some z→∀ n,n∈z.2→1≤n∧n≤nd
 some_:∀ v:Nat,v<M.L.th.toNat→(e.ws v).now≠none→Z v≠none
 tasks:∀ v:Nat,v<M.L.th.toNat→(e.ws v).tasks=eT sh (ops.getD v [])
structure Em (M:ML) (sh nd:Int) (ops:List (List Opn)) (e:aZ) (Z:Zs):Prop where
 mid:Cg M sh nd ops e Z
 now:∀ v:Nat,v<M.L.th.toNat→Z v≠none→(e.ws v).now≠none
theorem ym {nd:Int} {Q:Nat→Int→Prop} {Z Z':Zs} (h:pY nd Q Z Z') (hr:∀ v z,Z v=some z→∀ n,n∈z.2→1≤n∧n≤nd):∀ v z,Z' v=some z→∀ n,n∈z.2→1≤n∧n≤nd:=fun v z hz n hn=>by
 cases hv:Z v with
 | none=>rw[h.none_ v hv] at hz;cases hz
 | some y=>
  obtain⟨l,h1,h2,h3,h4⟩:=h.some_ v y hv
  rw[h1] at hz
  injection hz with hz
  subst hz
  rcases h3 n hn with h5 | h5
  ·exact hr v y hv n h5
  ·exact h5
theorem Ch {nd:Int} {Q:Nat→Int→Prop} {Z Z':Zs} (h:pY nd Q Z Z') (v n:Int) (hs:SZ Z v n):SZ Z' v n:=by
 obtain⟨z,h1,h2⟩:=hs
 obtain⟨l,h3,h4,-⟩:=h.some_ _ z h1
 exact⟨_,h3,h4 n h2⟩
theorem ts {nd:Int} {Q:Nat→Int→Prop} {Z Z':Zs} (h:pY nd Q Z Z') {v:Nat} (hs:Z v≠none):Z' v≠none:=by
 cases hv:Z v with
 | none=>exact absurd hv hs
 | some y=>
  obtain⟨l,h1,-⟩:=h.some_ v y hv
  rw[h1];simp
section
variable {M:ML} {sh nd:Int} {ops:List (List Opn)} {e:aZ} {Z:Zs}
theorem Em.fresh {g u:Nat} {Z':Zs} (h:Em M sh nd ops e Z) (ho:dG M e) (hnd:M.L.nd=nd) (hu:u<M.L.th.toNat) (hz:Z u=none) (hg:pY nd (fun u n=>u<M.L.th.toNat∧1≤n∧n≤nd∧ld M e.m (M.L.life n) % 2≠0) (fun v=>if v=u then some (g,[]) else Z v) Z'):
  Cg M sh nd ops e Z'∧Z' u≠none∧qY M e.m (SZ Z' u):=by
 have hne:∀ v:Nat,v<M.L.th.toNat→(e.ws v).now≠none→v≠u:=fun v hv hn e2=>by subst e2;exact h.mid.some_ v hv hn hz
 refine⟨⟨h.mid.full.swap ho fun v hv hn n hs=> ?_,ym hg fun v z hv n hn=> ?_,fun v hv hn=>ts hg ?_,h.mid.tasks⟩,ts hg (by simp),fun n h1 h2 h3=> ?_⟩
 ·refine Ch hg v n ?_
  obtain⟨z,h1,h2⟩:=hs
  rw[Int.toNat_natCast] at h1
  exact⟨z,by simp only[Int.toNat_natCast,if_neg (hne v hv hn)];exact h1,h2⟩
 ·split at hv
  ·injection hv with hv
   subst hv
   cases hn
  ·exact h.mid.rng v z hv n hn
 ·simp only[if_neg (hne v hv hn)];exact h.mid.some_ v hv hn
 ·obtain⟨l,h4,-,-,h7⟩:=hg.some_ u (g,[]) (by simp)
  exact⟨_,by rw[Int.toNat_natCast];exact h4,h7 n ⟨hu,h1,by rw[←hnd];exact h2,h3⟩⟩
theorem Em.old {u:Nat} (h:Em M sh nd ops e Z) (hu:u<M.L.th.toNat) (hz:Z u≠none):qY M e.m (SZ Z u):=h.mid.full.odd u hu (h.now u hu hz)
theorem Cg.next {u:Nat} {Z':Zs} (h:Cg M sh nd ops e Z) (ho:dG M e) (hnd:M.L.nd=nd) (hs:e.steps≤18000) (hu:u<M.L.th.toNat) (hl:(e.ws u).left≠0) (hz:Z u≠none) (hme:qY M e.m (SZ Z u))
  (hg:pY nd (fun v n=>v<M.L.th.toNat∧1≤n∧n≤nd∧ld M (e.next M u).m (M.L.life n) % 2≠0) Z Z'):
  Cg M sh nd ops (e.next M u) Z'∧((e.did M u).1=true→kj M.L (SZ Z' u) (e.a7 M.L u).task (e.did M u).2.2.2.res):=by
 have hodd:∀ v:Nat,v<M.L.th.toNat→Z v≠none→qY M (e.next M u).m (SZ Z' v):=fun v hv hn n h1 h2 h3=>by
  cases hzv:Z v with
  | none=>exact absurd hzv hn
  | some z=>
   obtain⟨l,h4,-,-,h7⟩:=hg.some_ v z hzv
   exact⟨_,by rw[Int.toNat_natCast];exact h4,h7 n ⟨hv,h1,by rw[←hnd];exact h2,h3⟩⟩
 have hnx:=h.full.next ho hs hu hl hme (S':=SZ Z') (fun v hv hc=>⟨fun n=>Ch hg v n,hodd v hv (by
  rcases hc with rfl | hc
  ·exact hz
  ·exact h.some_ v hv hc)⟩)
 have hws:∀ v,v≠u→(e.next M u).ws v=e.ws v:=fun v hv=>by simp only[aZ.next,fI,if_neg hv]
 have b7:(e.next M u).ws u=cy.stop ((e.ws u).with_ (e.a7 M.L u)) (e.did M u):=by simp only[aZ.next,fI,if_true]
 refine⟨⟨hnx.1,ym hg h.rng,fun v hv hn=>ts hg ?_,fun v hv=> ?_⟩,hnx.2⟩
 ·by_cases e2:v=u
  ·subst e2;exact hz
  ·rw[hws v e2] at hn;exact h.some_ v hv hn
 ·by_cases e2:v=u
  ·subst e2
   rw[b7]
   have:∀ x:cy,x.tasks=(e.ws v).tasks→(cy.stop x (e.did M v)).tasks=(e.ws v).tasks:=fun x hx=>by unfold cy.stop;split<;>exact hx
   exact(this ((e.ws v).with_ (e.a7 M.L v)) rfl).trans (h.tasks v hv)
  ·rw[hws v e2];exact h.tasks v hv
theorem Cg.on {u:Nat} (h:Cg M sh nd ops (e.next M u) Z) (hu:u<M.L.th.toNat) (hr:(e.did M u).1=false) (hold:∀ v:Nat,v<M.L.th.toNat→v≠u→Z v≠none→(e.ws v).now≠none):Em M sh nd ops (e.next M u) Z:=by
 have hws:∀ v,v≠u→(e.next M u).ws v=e.ws v:=fun v hv=>by simp only[aZ.next,fI,if_neg hv]
 have b7:(e.next M u).ws u=cy.stop ((e.ws u).with_ (e.a7 M.L u)) (e.did M u):=by simp only[aZ.next,fI,if_true]
 refine⟨h,fun v hv hz=> ?_⟩
 by_cases e2:v=u
 ·subst e2
  rw[b7];unfold cy.stop
  rw[if_neg (by rw[hr];decide)]
  simp
 ·rw[hws v e2];exact hold v hv e2 hz
theorem Cg.over {u:Nat} (h:Cg M sh nd ops (e.next M u) Z) (ho:dG M (e.next M u)) (hr:(e.did M u).1=true) (hold:∀ v:Nat,v<M.L.th.toNat→v≠u→Z v≠none→(e.ws v).now≠none):Em M sh nd ops (e.next M u) (fun v=>if v=u then none else Z v):=by
 have hws:∀ v,v≠u→(e.next M u).ws v=e.ws v:=fun v hv=>by simp only[aZ.next,fI,if_neg hv]
 have b7:(e.next M u).ws u=cy.stop ((e.ws u).with_ (e.a7 M.L u)) (e.did M u):=by simp only[aZ.next,fI,if_true]
 have hn0:((e.next M u).ws u).now=none:=by rw[b7];unfold cy.stop;rw[if_pos hr]
 have hne:∀ v,((e.next M u).ws v).now≠none→v≠u:=fun v hn e2=>by subst e2;exact hn hn0
 refine⟨⟨h.full.swap ho fun v hv hn n hs=> ?_,fun v z hz=> ?_,fun v hv hn=> ?_,h.tasks⟩,fun v hv hz=> ?_⟩
 ·obtain⟨z,h1,h2⟩:=hs
  rw[Int.toNat_natCast] at h1
  exact⟨z,by simp only[Int.toNat_natCast,if_neg (hne v hn)];exact h1,h2⟩
 ·split at hz
  ·cases hz
  ·exact h.rng v z hz
 ·simp only[if_neg (hne v hn)];exact h.some_ v hv hn
 ·split at hz
  ·exact absurd rfl hz
  ·rename_i e2
   rw[hws v e2];exact hold v hv e2 hz
theorem Em.init {tries:Int}:Em M sh nd ops (.init sh tries ops) (fun _=>none):=
 ⟨⟨.init,fun v z hz=>(by cases hz),fun v _ hn=>absurd (by simp[aZ.init,dy]) hn,fun v _=>rfl⟩,fun v _ hz=>absurd rfl hz⟩
end
theorem zx {e:aZ} (h:dG M e) {u:Nat} (hu:u<M.L.th.toNat) (hr:(e.did M u).1=true):(e.next M u).hist.evs=(e.cU M.L u).evs++[GF u (e.did M u).2.2.2.res.code (e.did M u).2.2.2.res.ok (e.did M u).2.2.2.res.val]:=by
 have hhm:=vr h hu
 have hth:=h.lay.th
 have herr:(e.cU M.L u).ny (u:Int)=0:=by
  unfold HS.ny
  rw[if_neg (by omega),Int.toNat_natCast,if_pos hhm.2.1]
 have hH:(e.next M u).hist=if (e.did M u).1 then (e.cU M.L u).end_ (u:Int) (e.did M u).2.2.2.res.code (e.did M u).2.2.2.res.ok (e.did M u).2.2.2.res.val else e.cU M.L u:=rfl
 rw[hH,if_pos hr]
 unfold HS.end_
 rw[if_pos herr,Int.toNat_natCast]
 simp[HS.xE]
theorem zy {e:aZ} {u:Nat}:((e.next M u).ws u).left=(e.ws u).left - (if (e.did M u).1 then 1 else 0):=by
 have b7:(e.next M u).ws u=cy.stop ((e.ws u).with_ (e.a7 M.L u)) (e.did M u):=by simp only[aZ.next,fI,if_true]
 rw[b7]
 unfold cy.stop cy.left cy.with_
 split<;>simp<;>omega
structure CD (M:ML) (sh nd:Int) (ops:List (List Opn)) (c:Nat) (e:aZ) (Z:Zs) (P:Nat→Option Nat):Prop where
 fl:Em M sh nd ops e Z
 hp:∀ v,(Z v).map (·.1)=P v
 st:e.steps≤c
structure GU (M:ML) (sh nd:Int) (ops:List (List Opn)) (c:Nat) (e:aZ) (v:Nat) (Z:Zs) (P:Nat→Option Nat):Prop where
 fm:Cg M sh nd ops e Z
 hp:∀ v,(Z v).map (·.1)=P v
 st:e.steps≤c
 some_:Z v≠none
 odd:qY M e.m (SZ Z v)
 old:∀ x:Nat,x<M.L.th.toNat→x≠v→Z x≠none→(e.ws x).now≠none
theorem EN {nd:Int} {Q:Nat→Int→Prop} {Z Z':Zs} {P:Nat→Option Nat} (h:pY nd Q Z Z') (hp:∀ v,(Z v).map (·.1)=P v):∀ v,(Z' v).map (·.1)=P v:=fun v=>by
 rw[←hp v]
 cases hv:Z v with
 | none=>rw[h.none_ v hv]
 | some y=>
  obtain⟨l,h1,-⟩:=h.some_ v y hv
  rw[h1];rfl
theorem pZ {nd:Int} {Q:Nat→Int→Prop} {Z Z':Zs} (h:pY nd Q Z Z') {v:Nat} (hs:Z' v≠none):Z v≠none:=fun hv=>hs (h.none_ v hv)
section
variable {M:ML} {sh nd:Int} {ops:List (List Opn)} {e:aZ} {Z Z':Zs} {c v g:Nat} {P:Nat→Option Nat}
theorem CD.fresh (h:CD M sh nd ops c e Z P) (ho:dG M e) (hnd:M.L.nd=nd) (hu:v<M.L.th.toNat) (hz:Z v=none) (hg:pY nd (fun u n=>u<M.L.th.toNat∧1≤n∧n≤nd∧ld M e.m (M.L.life n) % 2≠0) (fun x=>if x=v then some (g,[]) else Z x) Z'):
  GU M sh nd ops c e v Z' (fun x=>if x=v then some g else P x):=by
 obtain⟨h1,h2,h3⟩:=h.fl.fresh ho hnd hu hz hg
 refine⟨h1,EN hg fun x=> ?_,h.st,h2,h3,fun x hx hne hz2=> ?_⟩
 ·split
  ·rfl
  ·exact h.hp x
 ·have:=pZ hg hz2
  rw[if_neg hne] at this
  exact h.fl.now x hx this
theorem CD.had (h:CD M sh nd ops c e Z P) (hu:v<M.L.th.toNat) (hz:Z v≠none):GU M sh nd ops c e v Z P:=
 ⟨h.fl.mid,h.hp,h.st,hz,h.fl.old hu hz,fun x hx _ hz2=>h.fl.now x hx hz2⟩
structure CE (M:ML) (sh nd:Int) (ops:List (List Opn)) (c:Nat) (e:aZ) (v:Nat) (Z:Zs) (P:Nat→Option Nat):Prop where
 fm:Cg M sh nd ops (e.next M v) Z
 hp:∀ v,(Z v).map (·.1)=P v
 st:(e.next M v).steps≤c+1
 some_:Z v≠none
 res:(e.did M v).1=true→kj M.L (SZ Z v) (e.a7 M.L v).task (e.did M v).2.2.2.res
 old:∀ x:Nat,x<M.L.th.toNat→x≠v→Z x≠none→(e.ws x).now≠none
 tks:(e.ws v).tasks=eT sh (ops.getD v [])
theorem GU.next (h:GU M sh nd ops c e v Z P) (ho:dG M e) (hnd:M.L.nd=nd) (hc:c≤18000) (hu:v<M.L.th.toNat) (hl:(e.ws v).left≠0)
  (hg:pY nd (fun x n=>x<M.L.th.toNat∧1≤n∧n≤nd∧ld M (e.next M v).m (M.L.life n) % 2≠0) Z Z'):CE M sh nd ops c e v Z' P:=by
 have hst:=h.st
 obtain⟨h1,h2⟩:=h.fm.next ho hnd (by omega) hu hl h.some_ h.odd hg
 exact⟨h1,EN hg h.hp,by show e.steps+1≤_;omega,ts hg h.some_,h2,fun x hx hne hz=>h.old x hx hne (pZ hg hz),h.fm.tasks v hu⟩
theorem CE.on (h:CE M sh nd ops c e v Z P) (hu:v<M.L.th.toNat) (hr:(e.did M v).1=false):CD M sh nd ops (c+1) (e.next M v) Z P:=⟨h.fm.on hu hr h.old,h.hp,h.st⟩
theorem CE.over (h:CE M sh nd ops c e v Z P) (ho:dG M (e.next M v)) (hr:(e.did M v).1=true):CD M sh nd ops (c+1) (e.next M v) (fun x=>if x=v then none else Z x) (fun x=>if x=v then none else P x):=
 ⟨h.fm.over ho hr h.old,fun x=>by
  split
  ·rfl
  ·exact h.hp x,h.st⟩
theorem CE.op (h:CE M sh nd ops c e v Z P) (hn:Now M e v) {L0:Int} (hl:(e.ws v).left=L0):∃ l o,∃ j:Nat,ops[v]? =some l∧l[j]? =some o∧(l.length:Int) - L0=j∧o.kind=(e.a7 M.L v).task.kind:=by
 have ht:=hn.task
 have hlen:(e.ws v).tasks.length=(ops.getD v []).length:=by rw[h.tks];simp[eT]
 unfold cy.left at hl
 rw[h.tks] at ht
 unfold eT at ht
 rw[List.getElem?_map] at ht
 obtain⟨o,ho,he⟩:=Option.map_eq_some_iff.1 ht
 have hv:v<ops.length:=Classical.byContradiction fun hc=>by
  rw[List.getD_eq_getElem?_getD,List.getElem?_eq_none (l:=ops) (i:=v) (by omega)] at ho
  simp at ho
 have hg:ops.getD v []=ops[v]:=by rw[List.getD_eq_getElem?_getD,List.getElem?_eq_getElem hv];rfl
 obtain⟨l,hx⟩:∃ l,ops[v]=l:=⟨_,rfl⟩
 rw[hg,hx] at ho hlen
 exact⟨l,o,(e.ws v).ended,by rw[List.getElem?_eq_getElem hv,hx],ho,by omega,by rw[←he]⟩
theorem CE.told (h:CE M sh nd ops c e v Z P) (hr:(e.did M v).1=true) (hc:(e.did M v).2.2.2.res.code≠0) (hcnt:∀ z,Z v=some z→z.2.Nodup) (hnd:M.L.nd=nd) (hn0:0≤nd):
  (e.did M v).2.2.2.res=⟨4,false,0⟩∧((e.a7 M.L v).task.kind=1∨(e.a7 M.L v).task.kind=4)∧∃ z,Z v=some z∧(z.2.length:Int)=nd:=by
 obtain⟨h1,h2,h3⟩:=(h.res hr).res hc
 refine⟨h1,?_,?_⟩
 ·unfold bq.links at h2
  simpa using h2
 ·cases hz:Z v with
  | none=>exact absurd hz h.some_
  | some z=>
   refine⟨z,rfl,?_⟩
   have:=nt nd.toNat z.2 (hcnt z hz) (fun x hx=>by have:=h.fm.rng v z hz x hx;omega) (fun x h4 h5=>by
    obtain⟨y,h6,h7⟩:=h3 x h4 (by rw[hnd];omega)
    rw[Int.toNat_natCast,hz] at h6
    injection h6 with h6
    subst h6;exact h7)
   omega
end
theorem Ci:(Tryz.prog.info? 37).map (fun i=>(i.zero,i.size,i.bytes))=some (some (.map none),1,8):=by kernel_rfl
theorem zz (n:Nat):madeCells (Value.map none).cells n=cJ n (fun _=>none):=by
 unfold madeCells cJ
 apply Array.ext'
 have h:(Value.map none).cells= #[.map none]:=rfl
 rw[h]
 simp[Nat.mod_one]
theorem Cj (z:Int) (h0:0≤z) (h1:z≤100000) (W:World):(Instr.makeSlice 33 (.int .i64 z) (.int .i64 z)).run Tryz.prog W= .ok (.slice (some ⟨W.heap.size,0,none⟩) z.toNat z.toNat) (W.alloc (.cells (cJ z.toNat (fun _=>none)) 37)):=by
 obtain⟨i0,hi,hz0,hz1,hz2⟩:=info_parts Ci
 rw[run_make W 33 37 i0 _ Tryz.underlying33 hi hz0 .i64 .i64 z z h0 (Int.le_refl _) (by rw[hz2];simp;omega) (by omega),hz1,Nat.mul_one,zz]
theorem Nl:(Tryz.prog.info? 46).map (·.size)=some 2:=by kernel_rfl
theorem K7:(Tryz.prog.info? 51).map (·.size)=some 7:=by kernel_rfl
theorem I8 {e:aZ} {u:Int} (h:e.can M u=true):e.pick M u=e.next M u.toNat:=by unfold aZ.pick;rw[if_pos h]
theorem zA (sh th nd tr:Int) (A:Option Addr) (n cap B:Nat) (ops:List (List Opn)) (AL:Option Addr) (m cl:Nat) (ps:List xC) (w:World) (hs:dF w B A n ops) (hl:Sl w B 2 AL m (ps.flatMap xC.cells)) (hpl:ps.length=m) (hB:B≤w.heap.size):
  Calls Tryz.prog 3 #[.agg #[.int .i64 sh,.int .i64 th,.int .i64 nd,.int .i64 tr,.slice A n cap],.slice AL m cl] w fun e w'=>e= .returned (.bool true)∧Below w.heap.size w w':=by
 obtain⟨jb,hjb⟩:∃ jb,w.heap.size=jb:=⟨_,rfl⟩
 have hb1:Below w.heap.size w (w.alloc (.cells #[.int .i64 sh,.int .i64 th,.int .i64 nd,.int .i64 tr,.slice A n cap] 24)):=(Below.refl _ _).alloc (Nat.le_refl _) _
 have x1:=a8.newAt w 24 #[.int .i64 sh,.int .i64 th,.int .i64 nd,.int .i64 tr,.slice A n cap] hjb.symm
 go_enter Tryz.func3,Tryz.ntmps3
 go_wp2_with fail
 try simp only[hjb]
 generalize(w.alloc (.cells #[.int .i64 sh,.int .i64 th,.int .i64 nd,.int .i64 tr,.slice A n cap] 24))=w1 at *
 refine(xA _).mono ?_
 rintro r w2 ⟨rfl,hb2⟩
 replace hb1:=hb1.trans (hb2.mono hb1.size)
 replace x1:=x1.step hb2
 clear hb2
 have hc:=x1.cells
 go_wp2_with fail
 refine(zu sh th nd tr A n cap B ops AL m cl _ (hs.below (hb1.mono hB)) (Nat.le_trans hB hb1.size)).mono ?_
 rintro r w3 ⟨⟨g,rfl,hg⟩,hb3⟩
 have HG:=Lib.hid hg
 replace hb1:=hb1.trans (hb3.mono hb1.size)
 replace x1:=x1.step hb3
 clear hb3 hc hg
 have hc:=x1.cells
 cases g with
 | true=>
  go_wp2_with fail
  go_ret
  exact⟨rfl,hb1⟩
 | false=>
 obtain⟨Nm,hj⟩:m≤60∧yk sh th nd tr n ops:=by have:=HG.out;simpa using this
 clear HG
 go_wp2_with fail
 refine(zv sh th nd tr A n cap B ops _ (hs.below (hb1.mono hB)) (Nat.le_trans hB hb1.size) hj).mono ?_
 rintro r w4 ⟨⟨b,E,C4,rfl,Eh,hEB,hlow,hE⟩,hb4⟩
 have hI:I4 w b E (.init sh tr ops) [⟨jb,24,#[.int .i64 sh,.int .i64 th,.int .i64 nd,.int .i64 tr,.slice A n cap]⟩] w4:=
  ⟨hb1.trans (hb4.mono hb1.size),dG.init (by rw[Eh];exact hj.cfg) hj.xw hj.may,Nat.le_trans hb1.size hEB,fun x hx=>by obtain rfl:=List.mem_singleton.1 hx;exact⟨by simp only;omega,show some 24∉yb from by decide⟩,C4,hE,fun g hg=>hlow g (Nat.lt_of_lt_of_le hg hb1.size),fun x hx=>by obtain rfl:=List.mem_singleton.1 hx;exact SB.mk (x1.step hb4) (hlow jb x1.lt)⟩
 clear hb4 hE hlow hEB hc x1 hb1
 have hc:=(hI.blk (List.mem_cons_self ..)).cells
 go_wp2_with fail
 have hZ:=hI.z.alloc 28 #[.pointer (some ⟨b,0,none⟩)] (by decide)
 obtain⟨eb,heb⟩:∃ eb,w4.heap.size=eb:=⟨_,rfl⟩
 clear hI hc
 generalize w4.alloc (.cells #[.pointer (some ⟨b,0,none⟩)] 28)=w5 at *
 simp only[heb] at hZ⊢
 refine(zw hZ).mono ?_
 rintro r w6 ⟨rfl,hb6⟩
 replace hZ:=hZ.step hb6
 rw[Eh]
 simp only[Ly.val]
 clear heb hb6
 have hth:=hj.cfg.lay.th
 have hnd:=hj.cfg.lay.nd
 simp only at hth hnd
 have K8:=hZ.blk (List.mem_cons_of_mem _ (List.mem_cons_self ..))
 have hc:=K8.cells
 have hjl:=K8.lt
 have Gk:=(hZ.blk (List.mem_cons_self ..)).lt
 simp only at hjl Gk
 have hmk:=Cj th (by omega) (by omega)
 go_wp2_with fail
 replace hZ:=((hZ.alloc 31 #[.int .i64 th,.int .i64 nd] (by decide)).alloc 37 (cJ th.toNat (fun _=>none)) (by decide)).alloc 33 #[.slice (some ⟨w6.heap.size+1,0,none⟩) th.toNat th.toNat] (by decide)
 obtain⟨lb,hlb⟩:∃ lb,w6.heap.size=lb:=⟨_,rfl⟩
 have s1:(w6.alloc (.cells #[.int .i64 th,.int .i64 nd] 31)).heap.size=lb+1:=by rw[←hlb];simp
 have s2:((w6.alloc (.cells #[.int .i64 th,.int .i64 nd] 31)).alloc (.cells (cJ th.toNat (fun _=>none)) 37)).heap.size=lb+1+1:=by rw[←s1];simp
 obtain⟨mb,hmb⟩:∃ mb,lb+1=mb:=⟨_,rfl⟩
 obtain⟨sb,hsb⟩:∃ sb,mb+1=sb:=⟨_,rfl⟩
 rw[hlb] at Gk hjl
 generalize((w6.alloc (.cells #[.int .i64 th,.int .i64 nd] 31)).alloc (.cells (cJ th.toNat (fun _=>none)) 37)).alloc (.cells #[.slice (some ⟨w6.heap.size+1,0,none⟩) th.toNat th.toNat] 33)=w7 at *
 simp only[s1,s2,hlb,hmb,hsb] at hZ⊢
 have hn1:eb≠mb∧lb≠mb∧sb≠mb∧jb≠mb:=by omega
 clear s1 s2 hlb hmb hsb hjl Gk hmk hc
 obtain⟨N,hN⟩:∃ N,th.toNat=N:=⟨_,rfl⟩
 have Cp:(N:Int)=th:=by omega
 rw[hN] at hZ
 simp only[hN]
 obtain⟨K,hK⟩:∃ K:List Ob,K=[⟨sb,33,#[.slice (some ⟨mb,0,none⟩) N N]⟩,⟨eb,28,#[.pointer (some ⟨b,0,none⟩)]⟩,⟨lb,31,#[.int .i64 th,.int .i64 nd]⟩,⟨jb,24,#[.int .i64 sh,.int .i64 th,.int .i64 nd,.int .i64 tr,.slice A n cap]⟩]:=⟨_,rfl⟩
 replace hZ:=hZ.sub (K':=⟨mb,37,cJ N (fun _=>none)⟩::K) (fun x hx=>by rw[hK] at hx;simp only[List.mem_cons,List.not_mem_nil,or_false] at hx⊢;rcases hx with h | h | h | h | h<;>simp[h])
 have tu:Hid ((⟨sb,33,#[.slice (some ⟨mb,0,none⟩) N N]⟩:Ob)∈K):=Lib.hid (by rw[hK];simp)
 have Gl:Hid ((⟨eb,28,#[.pointer (some ⟨b,0,none⟩)]⟩:Ob)∈K):=Lib.hid (by rw[hK];simp)
 have K9:Hid ((⟨lb,31,#[.int .i64 th,.int .i64 nd]⟩:Ob)∈K):=Lib.hid (by rw[hK];simp)
 have Ml:Hid ((⟨jb,24,#[.int .i64 sh,.int .i64 th,.int .i64 nd,.int .i64 tr,.slice A n cap]⟩:Ob)∈K):=Lib.hid (by rw[hK];simp)
 have La:Hid (∀ y∈K,y.b≠mb):=Lib.hid (fun y hy=>by rw[hK] at hy;simp only[List.mem_cons,List.not_mem_nil,or_false] at hy;rcases hy with h | h | h | h<;>subst h<;>simp only<;>omega)
 have Cf:=hj.cfg.lay
 have HL:Hid (CD E.M sh nd ops (300*0) (.init sh tr ops) (fun _=>none) (fun _=>none)):=Lib.hid ⟨.init,fun _=>rfl,Nat.le_refl _⟩
 have Gj:=Lib.hid Eh
 have HN:Hid (E.M.L.th.toNat=N):=Lib.hid (by rw[Eh];exact hN)
 clear hK hN hn1 Eh K8
 go_loopw [32] (fun i wr=>∃ k:Nat,k≤m∧i= .int .i64 k∧∃ e Z P,jv w b E e (⟨mb,37,cJ N P⟩::K) Z wr∧Hid (CD E.M sh nd ops (300*k) e Z P)) (fun i _=>m - (intOf i).toNat)
 case atStart=>exact⟨0,by omega,rfl,_,_,_,hZ,HL⟩
 case round=>
  clear hZ HL
  obtain⟨k,hk,rfl,e,Z,P,hI,HL⟩:=hrel
  by_cases hlt:k<m
  ·have dk:decide ((k:Int)<(m:Int))=true:=decide_eq_true (by omega)
   obtain⟨p,hp⟩:∃ p,ps[k]? =some p:=⟨_,List.getElem?_eq_getElem (by omega)⟩
   have EZ:=hl.below (hI.bel.mono hB)
   have hix:=EZ.idx (P:=Tryz.prog) (c:=cl) Tryz.underlying25 I5 hlt
   obtain⟨f1,f2⟩:=Gi EZ hlt hp
   obtain⟨u,tm⟩:=p
   simp only at f1 f2
   clear EZ hp
   go_wp2_with fail
   have hI2:=(hI.alloc 39 #[.int .i64 u,.int .i64 tm] (by decide)).sub (K':=⟨mb,37,cJ N P⟩::⟨wr.heap.size,39,#[.int .i64 u,.int .i64 tm]⟩::K) (fun x hx=>by simp only[List.mem_cons] at hx⊢;rcases hx with h | h | h<;>simp[h])
   obtain⟨pb,hpb⟩:∃ pb,wr.heap.size=pb:=⟨_,rfl⟩
   have Lb:Hid (pb≠mb):=Lib.hid (by have:=(hI.blk (List.mem_cons_self ..)).lt;simp only at this;omega)
   generalize wr.alloc (.cells #[.int .i64 u,.int .i64 tm] 39)=w8 at *
   simp only[hpb] at hI2⊢
   clear hI f1 f2 hix hpb
   go_loopw [11] (fun x wi=>∃ (i:Nat) (e:aZ) (Z:Zs) (P:Nat→Option Nat),i≤300∧x= .int .i64 i∧jv w b E e (⟨mb,37,cJ N P⟩::⟨pb,39,#[.int .i64 u,.int .i64 tm]⟩::K) Z wi∧Hid (CD E.M sh nd ops (300*k+i) e Z P)) (fun x _=>300 - (intOf x).toNat)
   case atStart=>exact⟨0,_,_,_,by omega,rfl,hI2,HL⟩
   case round=>
    clear hI2 HL e Z P
    obtain⟨i,e,Z,P,hi3,rfl,hI,HL⟩:=hrel
    have hpc:=(hI.blk (List.mem_cons_of_mem _ (List.mem_cons_self ..))).cells
    have vF:=hI.sub (K':=⟨mb,37,cJ N P⟩::K) (fun x hx=>by simp only[List.mem_cons] at hx⊢;rcases hx with h | h<;>simp[h])
    have JN:Hid (CD E.M sh nd ops (300*(k+1)) e Z P):=Lib.hid ⟨HL.out.fl,HL.out.hp,Nat.le_trans HL.out.st (by omega)⟩
    by_cases Lc:(i:Int)<tm∧i<300
    ·have d1:decide ((i:Int)<tm)=true:=decide_eq_true Lc.1
     have d2:decide ((i:Int)<300)=true:=decide_eq_true (by omega)
     have CB:=(hI.blk (List.mem_cons_of_mem _ (List.mem_cons_of_mem _ Gl.out))).cells
     go_wp2_with fail
     refine(yl hI u).mono ?_
     rintro r w9 ⟨rfl,Ia⟩
     replace hI:=hI.step Ia
     replace vF:=vF.step Ia
     obtain⟨L0,hL0⟩:∃ L0,e.dY E.M.L u=L0:=⟨_,rfl⟩
     simp only[hL0]
     clear Ia hpc CB
     have hpc:=(hI.blk (List.mem_cons_of_mem _ (List.mem_cons_self ..))).cells
     have hjc:=(hI.blk (List.mem_cons_of_mem _ (List.mem_cons_of_mem _ Ml.out))).cells
     by_cases h0:L0=0
     ·subst h0
      clear hI hL0
      go_wp2_with fail
      go_roundw
      case rel=>exact⟨k+1,by omega,by go_num,_,_,_,vF,JN⟩
      case measure=>simp[intOf]<;>omega
     ·clear vF JN
      have Ld:E.M.L.th=th:=by rw[Gj.out]
      have Mn:E.M.L.nd=nd:=by rw[Gj.out]
      have hur:(0≤u∧u<th)∧(e.ws u.toNat).left=L0:=by
       unfold aZ.dY at hL0
       split at hL0
       ·rename_i hc;exact⟨⟨hc.1,by rw[←Ld];exact hc.2⟩,hL0⟩
       ·exact absurd hL0.symm h0
      obtain⟨⟨hu0,hu1⟩,hlf⟩:=hur
      obtain⟨v,rfl⟩:∃ v:Nat,u=v:=⟨u.toNat,by omega⟩
      rw[Int.toNat_natCast] at hlf
      have CC:v<N:=by omega
      have GV:v<E.M.L.th.toNat:=by rw[HN.out];exact CC
      have z0:decide (L0=0)=false:=decide_eq_false h0
      have z1:(L0==0)=false:=by simp[h0]
      have z2:decide ((v:Int)<0)=false:=decide_eq_false (by omega)
      have z3:decide ((v:Int)≥th)=false:=decide_eq_false (by omega)
      have z4:decide (th≤(v:Int))=false:=decide_eq_false (by omega)
      have yC:=Lib.hid hlf
      have NM:=Lib.hid hL0
      have Mo:=Lib.hid Ld
      have uR:=Lib.hid Mn
      clear hlf hL0 Ld Mn
      have hsc:=(hI.blk (List.mem_cons_of_mem _ (List.mem_cons_of_mem _ tu.out))).cells
      have hmc:w9.cell? ⟨mb,v,none⟩=some (.map (P v)):=by rw[(hI.blk (List.mem_cons_self ..)).cell];exact gh P CC
      have I7:=mc (mb:=mb) CC
      have qe:∀ (W:World) (r:Option Nat),(binOp .eql 37 (.map r) (.map none)).run Tryz.prog W= .ok (.bool r.isNone) W:=fun W r=>run_eql_map_nil W _ _ _ r Tryz.underlying37
      have hpv:=HL.out.hp v
      by_cases hz:Z v=none
      focus
       rw[hz] at hpv
       rw[←hpv] at hmc
       simp only[Option.map_none] at hmc
       have hmm:∀ W:World,(Instr.makeMap 37 none).run Tryz.prog W= .ok (.map (some W.heap.size)) (W.alloc (.map #[] 0)):=fun _=>rfl
       have hI1:=hI.bI v
       have Gn:=hI1.blk (List.mem_cons_self ..)
       have Le:=Gn.frees
       have hmc1:(w9.alloc (.map #[] 0)).cell? ⟨mb,v,none⟩=some (.map (P v)):=by rw[Gn.cell];exact gh P CC
       rw[←hpv] at hmc1
       simp only[Option.map_none] at hmc1
       have hml:=(hI.blk (List.mem_cons_self ..)).lt
       simp only at hml
       go_wp2_with fail
       have hI2:=(hI.set (x:=⟨mb,37,cJ N P⟩) (fun y hy=>by
        rcases List.mem_cons.1 hy with rfl | hy
        ·exact Lb.out
        ·exact La.out y hy) v (.map (some w9.heap.size))).bI v
       simp only[ln] at hI2
       rw[show (w9.setCell ⟨mb,v,none⟩ (.map (some w9.heap.size))).heap.size=w9.heap.size by simp] at hI2
       obtain⟨g,hg⟩:∃ g,w9.heap.size=g:=⟨_,rfl⟩
       clear hI hI1 Gn Le hmc1 hml hmc hsc hjc hpc hmm
       generalize(w9.setCell ⟨mb,v,none⟩ (.map (some w9.heap.size))).alloc (.map #[] 0)=w10 at *
       simp only[hg] at hI2⊢
       clear hg hpv
       refine(vD hI2 Gj.out (by omega) Cf (List.mem_cons_of_mem _ (List.mem_cons_of_mem _ K9.out)) (List.mem_cons_of_mem _ (List.mem_cons_of_mem _ Gl.out)) (List.mem_cons_of_mem _ (List.mem_cons_of_mem _ tu.out)) (List.mem_cons_self ..) (fun x=>by
        split
        ·rfl
        ·exact HL.out.hp x) (fun x z hx n hn=>by
        split at hx
        ·injection hx with hx
         subst hx
         cases hn
        ·exact HL.out.fl.mid.rng x z hx n hn)).mono ?_
       rintro r Ib ⟨rfl,Z2,hgo,EO⟩
       obtain⟨P2,hP2⟩:∃ P2:Nat→Option Nat,P2=fun x=>if x=v then some g else P x:=⟨_,rfl⟩
       have HM:Hid (GU E.M sh nd ops (300*k+i) e v Z2 P2):=Lib.hid (by
        rw[hP2]
        exact HL.out.fresh EO.ok uR.out GV hz (hgo.mono fun x n hq=>by rw[HN.out] at hq;exact hq))
       rw[←hP2] at EO
       clear hI2 hgo hP2 hz HL I7
       have CB:=(EO.blk (List.mem_cons_of_mem _ (List.mem_cons_of_mem _ Gl.out))).cells
       have hpc:=(EO.blk (List.mem_cons_of_mem _ (List.mem_cons_self ..))).cells
       go_wp2_with fail
      rotate_left
      focus
       obtain⟨z,hz2⟩:∃ z,Z v=some z:=by
        cases h:Z v with
        | none=>exact absurd h hz
        | some z=>exact⟨z,rfl⟩
       rw[hz2] at hpv
       rw[←hpv] at hmc
       simp only[Option.map_some] at hmc
       have HM:Hid (GU E.M sh nd ops (300*k+i) e v Z P):=Lib.hid (HL.out.had GV hz)
       have CB:=(hI.blk (List.mem_cons_of_mem _ (List.mem_cons_of_mem _ Gl.out))).cells
       have EO:=hI
       clear hI HL
       go_wp2_with fail
       clear hmc hpv hsc hjc hz hz2 I7
       obtain⟨Z2,hZ2⟩:∃ Z2,Z2=Z:=⟨_,rfl⟩
       obtain⟨P2,hP2⟩:∃ P2,P2=P:=⟨_,rfl⟩
       obtain⟨Ib,Lf⟩:∃ Ib,Ib=w9:=⟨_,rfl⟩
       subst hZ2 hP2 Lf
      all_goals
       refine(Ej EO (v:Int)).mono ?_
       rintro r w12 ⟨rfl,Cc⟩
       have hcan:e.can E.M (v:Int)=true:=by
        have h1:=HM.out.st
        unfold aZ.can
        rw[Mo.out,Int.toNat_natCast,yC.out,decide_eq_true (by omega),decide_eq_true hu1,decide_eq_true h0,decide_eq_true (by omega)];rfl
       rw[hcan]
       rw[I8 hcan,Int.toNat_natCast] at Cc
       have E6:=Lib.hid EO.ok
       clear EO CB hpc
       go_wp2_with fail
       refine(vD Cc Gj.out (by omega) Cf (List.mem_cons_of_mem _ (List.mem_cons_of_mem _ K9.out)) (List.mem_cons_of_mem _ (List.mem_cons_of_mem _ Gl.out)) (List.mem_cons_of_mem _ (List.mem_cons_of_mem _ tu.out)) (List.mem_cons_self ..) HM.out.hp HM.out.fm.rng).mono ?_
       rintro r NN ⟨rfl,Z3,hgo,mf⟩
       have HB:Hid (CE E.M sh nd ops (300*k+i) e v Z3 P2):=Lib.hid (HM.out.next E6.out uR.out (by omega) GV (by rw[yC.out];exact h0) (hgo.mono fun x n hq=>by rw[HN.out] at hq;exact hq))
       clear Cc hgo HM hcan
       have CB:=(mf.blk (List.mem_cons_of_mem _ (List.mem_cons_of_mem _ Gl.out))).cells
       have hpc:=(mf.blk (List.mem_cons_of_mem _ (List.mem_cons_self ..))).cells
       go_wp2_with fail
       refine(yl mf (v:Int)).mono ?_
       rintro r NO ⟨rfl,I9⟩
       replace mf:=mf.step I9
       have hL1:(e.next E.M v).dY E.M.L (v:Int)=L0 - (if (e.did E.M v).1 then 1 else 0):=by
        unfold aZ.dY
        rw[if_pos ⟨by omega,by rw[Mo.out];exact hu1⟩,Int.toNat_natCast,zy,yC.out]
       rw[hL1]
       clear CB hpc I9 hL1
       by_cases hr:(e.did E.M v).1=true
       ·rw[if_pos hr]
        have y0:decide (L0 - 1=L0)=false:=decide_eq_false (by omega)
        have y1:(L0 - 1==L0)=false:=by simp;omega
        have CB:=(mf.blk (List.mem_cons_of_mem _ (List.mem_cons_of_mem _ Gl.out))).cells
        go_wp2_with fail
        refine(El mf).mono ?_
        rintro r NP ⟨b',rfl,hH,Ja⟩
        replace mf:=mf.step Ja
        clear CB Ja y0 y1
        have hle:=mf.ok.len
        go_wp2_with fail
        refine(nh b' _ _ _ hH (by omega)).mono ?_
        rintro r w16 ⟨vv,rfl,hown,hb16⟩
        obtain⟨A1,c1,rfl,-,-,-⟩:=bF hown
        have hlast:=zx E6.out GV hr
        have hsl:=Sl.cB hown
        replace mf:=mf.step hb16
        obtain⟨q,hq⟩:∃ q,(e.cU E.M.L v).evs.length=q:=⟨_,rfl⟩
        obtain⟨⟨rc,ro,rv⟩,hres⟩:∃ r,(e.did E.M v).2.2.2.res=r:=⟨_,rfl⟩
        rw[hres] at hlast
        obtain⟨es,hes⟩:∃ es,(e.next E.M v).hist.evs=es:=⟨_,rfl⟩
        simp only[hes] at hlast hsl hle⊢
        have Mp:es.length=q+1:=by rw[hlast];simp[hq]
        have hqe:es[q]? =some (GF v rc ro rv):=by rw[hlast,←hq];simp
        simp only[Mp] at hsl hle⊢
        have EP:∀ i,i<7→w16.cell? ⟨bt A1,bY A1+q*7+i,none⟩=(GF (v:Int) rc ro rv).cells[i]? :=fun i hi=>by rw[hsl.at_ (by omega) hi,fS Ev.cells 7 Ev.db es q i _ hqe hi]
        have g0:w16.cell? ⟨bt A1,bY A1+q*7,none⟩=some (.int .i64 (v:Int)):=EP 0 (by omega)
        have g1:w16.cell? ⟨bt A1,bY A1+q*7+1,none⟩=some (.bool true):=EP 1 (by omega)
        have g2:w16.cell? ⟨bt A1,bY A1+q*7+2,none⟩=some (.int .i64 0):=EP 2 (by omega)
        have g3:w16.cell? ⟨bt A1,bY A1+q*7+3,none⟩=some (.int .i64 0):=EP 3 (by omega)
        have g4:w16.cell? ⟨bt A1,bY A1+q*7+4,none⟩=some (.int .i64 rc):=EP 4 (by omega)
        have g5:w16.cell? ⟨bt A1,bY A1+q*7+5,none⟩=some (.bool ro):=EP 5 (by omega)
        have g6:w16.cell? ⟨bt A1,bY A1+q*7+6,none⟩=some (.int .i64 rv):=EP 6 (by omega)
        have hix2:=hsl.idx (P:=Tryz.prog) (c:=c1) Tryz.underlying41 K7 (k:=q) (by omega)
        have e9:wrap64 (((q+1:Nat):Int) - 1)=(q:Int):=by rw[IntWalk.wrap64_in _ (by omega)];omega
        have Jb:=Lib.hid hres
        have Gp:=mf.blk (List.mem_cons_of_mem _ (List.mem_cons_of_mem _ tu.out))
        have Gq:=mf.blk (List.mem_cons_of_mem _ (List.mem_cons_self ..))
        have En:=mf.blk (List.mem_cons_self ..)
        have hsc:=Gp.cells
        have hpc:=Gq.cells
        have Jc:=Gp.lt
        have Jd:=Gq.lt
        have Je:=En.lt
        have hmf:=En.frees
        have hmc:w16.cell? ⟨mb,v,none⟩=some (.map (P2 v)):=by rw[En.cell];exact gh P2 CC
        have I7:=mc (mb:=mb) CC
        simp only at Jc Jd Je
        have Jf:=mf.ok
        have Lg:=(mf.set (x:=⟨mb,37,cJ N P2⟩) (fun y hy=>by
         rcases List.mem_cons.1 hy with rfl | hy
         ·exact Lb.out
         ·exact La.out y hy) v (.map none)).I6 (Z':=fun x=>if x=v then none else Z3 x) (fun x z hx=>by split at hx;cases hx;exact hx)
        simp only[ln] at Lg
        clear EP hsl hqe hlast hes hown hH hres hb16 Gp Gq En Mp
        by_cases hc0:rc=0
        ·subst hc0
         go_wp2_with fail
         go_roundw
         case rel=>exact⟨i+1,_,_,_,by omega,by go_num,Lg.step ((Below.refl _ _).alloc (Nat.le_refl _) _),Lib.hid (HB.out.over Jf hr)⟩
         case measure=>simp[intOf]<;>omega
        ·have Lh:∀ z,Z3 v=some z→CntAt w16 z.1 z.2:=fun z hz=>mf.map hz
         obtain⟨t1,t2,z,hz,hzn⟩:=HB.out.told hr (by rw[Jb.out];exact hc0) (fun z hz=>(Lh z hz).1) uR.out (by omega)
         rw[Jb.out] at t1
         injection t1 with t3 t4 t5
         subst t3 t4 t5
         obtain⟨lo,o,jo,hlo,ho,hjo,hko⟩:=HB.out.op (E6.out.now GV (by rw[yC.out];exact h0)) yC.out
         rw[←hko] at t2
         have hnz:=HB.out.hp v
         rw[hz] at hnz
         have hcnt:=Lh z hz
         have hjl:jo<lo.length:=(List.getElem?_eq_some_iff.1 ho).1
         have hvn:v<n:=by have:=(List.getElem?_eq_some_iff.1 hlo).1;rw[hs.len] at this;exact this
         clear Lh hko hc0
         go_wp2_with fail
         have hbe:Below w16.heap.size w16 (w16.alloc (.cells #[.int .i64 (v:Int),.bool true,.int .i64 0,.int .i64 0,.int .i64 4,.bool false,.int .i64 0] 51)):=(Below.refl _ _).alloc (Nat.le_refl _) _
         obtain⟨vb,hvb⟩:∃ vb,w16.heap.size=vb:=⟨_,rfl⟩
         have hev:=a8.newAt w16 51 #[.int .i64 (v:Int),.bool true,.int .i64 0,.int .i64 0,.int .i64 4,.bool false,.int .i64 0] (g:=vb) hvb.symm
         have zN:=mf.step hbe
         have ER:=hcnt.step hbe
         clear mf Lg g0 g1 g2 g3 g4 g5 g6 hix2 hsc hpc Jc Jd Je hmf hmc hcnt e9 hbe
         generalize w16.alloc (.cells #[.int .i64 (v:Int),.bool true,.int .i64 0,.int .i64 0,.int .i64 4,.bool false,.int .i64 0] 51)=tw at *
         simp only[hvb] at hev⊢
         clear hvb
         have hsw:=hs.below (zN.bel.mono hB)
         have hwB:B≤tw.heap.size:=Nat.le_trans hB zN.bel.size
         obtain⟨A2,n2,c2,hc2,hs2,hn2⟩:=hsw.at_ hlo
         have Gr:jo<n2:=by omega
         have k0:tw.cell? ⟨bt A2,bY A2+jo*2,none⟩=some (.int .i64 o.kind):=by rw[show bY A2+jo*2=bY A2+jo*2+0 from rfl,hs2.at_ Gr (by omega),fS Opn.cells 2 Opn.db lo jo 0 o ho (by omega)];rfl
         have k1:tw.cell? ⟨bt A2,bY A2+jo*2+1,none⟩=some (.int .i64 o.key):=by rw[hs2.at_ Gr (by omega),fS Opn.cells 2 Opn.db lo jo 1 o ho (by omega)];rfl
         have Li:=hsw.idx (cap:=cap) hvn
         have Jg:=hs2.idx (P:=Tryz.prog) (c:=c2) Tryz.underlying52 Nl Gr
         have hAl:bt A<tw.heap.size:=by have:=hsw.lt hvn;omega
         have hBl:bt A2<tw.heap.size:=by have:=hs2.blt (by omega);omega
         have xw:=hj.xw lo (List.mem_of_getElem? hlo)
         have e10:wrap64 ((n2:Int) - L0)=(jo:Int):=by rw[IntWalk.wrap64_in _ (by omega)];omega
         have e11:(n2:Int) - L0=(jo:Int):=by omega
         have Jh:=Jg
         rw[←e11] at Jh
         have Gs:=zN.blk (List.mem_cons_of_mem _ (List.mem_cons_of_mem _ Ml.out))
         have Gt:=zN.blk (List.mem_cons_of_mem _ (List.mem_cons_self ..))
         have q1:=Later.cells (B:=tw.heap.size) Gs Gs.lt
         have q2:=Later.cells (B:=tw.heap.size) Gt Gt.lt
         have q3:=Later.cell (B:=tw.heap.size) hc2 hAl
         have q4:=Later.cell (B:=tw.heap.size) k0 hBl
         have q5:=Later.cell (B:=tw.heap.size) k1 hBl
         clear hs2 hsw Gs Gt
         refine az (fun w'=>∃ q:Later tw.heap.size tw,w'=q.val) 18 [] [0,1,2,3,4,5,6,7,8,9,10,11,12,13,14,15,16] [17,18] (by kernel_rfl) (by kernel_rfl) (Later.bI (Below.refl _ _).drew) ?_
         refine af ?_
         try simp only[au,List.map_cons,List.map_nil,List.getD_cons_zero,List.getD_cons_succ]
         repeat(go_big_quiet_step (fail))
         refine wpQuiet_nil ?_
         refine ay rfl (fun K' hK'=> ?_)
         go_simp
         have hbx:Below tw.heap.size tw (tw.alloc (.cells #[.int .i64 0,.int .i64 0] 46)).drew:=((Below.refl _ _).alloc (Nat.le_refl _) _).drew
         refine hK' _ _ (Later.bI hbx) ?_
         clear hK' K'
         refine ae _ _ _ (by kernel_rfl) ?_
         try simp only[au,List.map_cons,List.map_nil,List.getD_cons_zero,List.getD_cons_succ]
         clear q1 q2 q3 q4 q5 k0 k1 hc2 Li Jg Jh hAl hBl e10 e11
         have hob:=(a8.newAt tw 46 #[.int .i64 0,.int .i64 0] rfl).drew
         have Lj:=(zN.alloc 46 #[.int .i64 0,.int .i64 0] (by decide)).step (Below.refl _ _).drew
         have hev7:=hev.step hbx
         have Ji:=ER.step hbx
         obtain⟨ob,B9⟩:∃ ob,tw.heap.size=ob:=⟨_,rfl⟩
         have hov:vb≠ob:=by have:=hev.lt;omega
         have hol:w.heap.size≤ob:=by rw[←B9];exact zN.bel.size
         have Jj:∀ y∈(⟨mb,37,cJ N P2⟩:Ob)::⟨pb,39,#[.int .i64 (v:Int),.int .i64 tm]⟩::K,y.b≠ob:=fun y hy=>by have:=(zN.blk hy).lt;omega
         clear zN hev ER hbx
         generalize(tw.alloc (.cells #[.int .i64 0,.int .i64 0] 46)).drew=Nn at *
         simp only[B9] at hob Lj⊢
         have hoc:=hob.cells
         have hof:=hob.frees
         go_wp2_with fail
         have vF:=(Lj.set (x:=⟨ob,46,#[.int .i64 0,.int .i64 0]⟩) Jj 0 (.int .i64 o.kind)).set (x:=⟨ob,46,_⟩) Jj 1 (.int .i64 o.key)
         simp only[sx] at vF
         have Gu:=(hev7.far (p:=⟨ob,0,none⟩) hov (.int .i64 o.kind)).far (p:=⟨ob,1,none⟩) hov (.int .i64 o.key)
         clear Lj hev7 Ji hob hoc hof
         generalize(Nn.setCell ⟨ob,0,none⟩ (.int .i64 o.kind)).setCell ⟨ob,1,none⟩ (.int .i64 o.key)=yn at *
         have Gv:=vF.blk (List.mem_cons_self ..)
         have Gw:=vF.blk (List.mem_cons_of_mem _ (List.mem_cons_self ..))
         have Gx:=vF.blk (List.mem_cons_of_mem _ (List.mem_cons_of_mem _ (List.mem_cons_self ..)))
         have Gy:=vF.blk (List.mem_cons_of_mem _ (List.mem_cons_of_mem _ (List.mem_cons_of_mem _ tu.out)))
         have Gz:=vF.blk (List.mem_cons_of_mem _ (List.mem_cons_of_mem _ (List.mem_cons_of_mem _ K9.out)))
         have Jk:yn.cell? ⟨mb,v,none⟩=some (.map (some z.1)):=by
          rw[Gw.cell]
          have:=gh P2 CC
          rw[←hnz] at this
          exact this
         have I7:=mc (mb:=mb) CC
         have ql:∀ q:Later yn.heap.size yn,(Builtin.len_ #[37] 3 #[.map (some z.1)]).run Tryz.prog q.val= .ok (.int .i64 nd) q.val:=fun q=>by
          have h1:=((vF.map hz).step q.below).len
          rw[hzn] at h1;exact h1
         have q1:=Later.cells (B:=yn.heap.size) Gu Gu.lt
         have q2:=Later.cells (B:=yn.heap.size) Gv Gv.lt
         have q3:=Later.cells (B:=yn.heap.size) Gy Gy.lt
         have q4:=Later.cells (B:=yn.heap.size) Gx Gx.lt
         have q5:=Later.cell (B:=yn.heap.size) Jk Gw.lt
         have q6:=Later.cells (B:=yn.heap.size) Gz Gz.lt
         obtain⟨NQ,NR⟩:=o
         simp only at t2 q2
         clear Gv Gw Gx Gy Gz Jk
         refine NoPanic.normal ?_
         rcases t2 with rfl | rfl
         all_goals
          go_wp2_with fail
          refine az (fun w'=>∃ q:Later yn.heap.size yn,w'=q.val) 24 [] [0,1,2,3,4,5,6,7,8,9,10,11,12,13,14,15,16,17,18,19,20,21,22,23] [24] (by kernel_rfl) (by kernel_rfl) (Later.bI (Below.refl _ _).drew) ?_
          refine af ?_
          try simp only[au,List.map_cons,List.map_nil,List.getD_cons_zero,List.getD_cons_succ]
          repeat(go_big_quiet_step (fail))
          refine wpQuiet_nil ?_
          refine ae _ _ _ (by kernel_rfl) ?_
          try simp only[au,List.map_cons,List.map_nil,List.getD_cons_zero,List.getD_cons_succ]
          clear q1 q2 q3 q4 q5 q6 ql
          have Ck:=(vF.step (Below.refl yn.heap.size yn).drew).sub (K':=⟨mb,37,cJ N P2⟩::⟨pb,39,#[.int .i64 (v:Int),.int .i64 tm]⟩::K) (fun x hx=>List.mem_cons_of_mem _ hx)
          have Jl:=(Ck.set (x:=⟨mb,37,cJ N P2⟩) (fun y hy=>by
           rcases List.mem_cons.1 hy with rfl | hy
           ·exact Lb.out
           ·exact La.out y hy) v (.map none)).I6 (Z':=fun x=>if x=v then none else Z3 x) (fun x z hx=>by split at hx;cases hx;exact hx)
          simp only[ln] at Jl
          have Cl:=Ck.blk (List.mem_cons_self ..)
          have hmf:=Cl.frees
          have hmc:yn.drew.cell? ⟨mb,v,none⟩=some (.map (P2 v)):=by rw[Cl.cell];exact gh P2 CC
          have hpc:=(Ck.blk (List.mem_cons_of_mem _ (List.mem_cons_self ..))).cells
          have hsc:=(Ck.blk (List.mem_cons_of_mem _ (List.mem_cons_of_mem _ tu.out))).cells
          clear vF Ck Gu Cl
          go_wp2_with fail
          refine NoPanic.normal ?_
          go_wp2_with fail
          go_roundw
          case rel=>exact⟨i+1,_,_,_,by omega,by go_num,Jl,Lib.hid (HB.out.over Jf hr)⟩
          case measure=>simp[intOf]<;>omega
       ·rw[if_neg hr,Int.sub_zero]
        clear E6
        go_wp2_with fail
        go_roundw
        case rel=>exact⟨i+1,_,_,_,by omega,by go_num,mf,Lib.hid (HB.out.on GV (by simpa using hr))⟩
        case measure=>simp[intOf]<;>omega
    ·by_cases d1:(i:Int)<tm
     ·have d1':decide ((i:Int)<tm)=true:=decide_eq_true d1
      have d2:decide ((i:Int)<300)=false:=decide_eq_false (by omega)
      clear Lc d1 hI
      go_wp2_with fail
      go_roundw
      case rel=>exact⟨k+1,by omega,by go_num,_,_,_,vF,JN⟩
      case measure=>simp[intOf]<;>omega
     ·have d1':decide ((i:Int)<tm)=false:=decide_eq_false d1
      clear Lc d1 hI
      go_wp2_with fail
      go_roundw
      case rel=>exact⟨k+1,by omega,by go_num,_,_,_,vF,JN⟩
      case measure=>simp[intOf]<;>omega
  ·have dk:decide ((k:Int)<(m:Int))=false:=decide_eq_false (by omega)
   have hbel:=hI.bel
   go_wp2_with fail
   go_ret
   exact⟨rfl,hbel⟩
end Go.Proofs.YtbcnnhlpilmmbaaGreat
