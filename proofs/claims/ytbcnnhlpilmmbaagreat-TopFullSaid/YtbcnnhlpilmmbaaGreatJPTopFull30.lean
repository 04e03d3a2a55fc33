/- Texts that are wanted for PTopFull.
   Conditions: none. -/
import Derived.Test.YtbcnnhlpilmmbaaGreatJPTopFull28
set_option maxRecDepth 100000
set_option maxHeartbeats 6400000
namespace Go.Proofs.YtbcnnhlpilmmbaaGreat
open Go Go.RowKit Go.ChangeShapes Go.WideShapes Go.ChangeAt Go.Deep
theorem r4:∀ rows:List (List Value),(∀ r∈rows,dt [some .i64,some .i64] r)→∃ ps:List xC,ps.length=rows.length∧rows.flatten=ps.flatMap xC.cells
 | [],_=>⟨[],rfl,rfl⟩
 | r::rows,h=>by
  obtain⟨a,b,rfl⟩:=(h r (List.mem_cons_self ..)).two
  obtain⟨ps,h1,h2⟩:=r4 rows (fun x hx=>h x (List.mem_cons_of_mem _ hx))
  exact⟨⟨a,b⟩::ps,by simp[h1],by simp[h2,xC.cells]⟩
section
variable {H:Type} {enc:TypeId×Value→H} {w:World} {base:Nat} {held:Bool}
theorem xD {v:Value} {A:Option Addr} {n cap:Nat} {d:DataW H} {ps:List MemPlace} (hv:v= .slice A n cap)
  (h:DataW.Trod enc Tryz.prog w base (fun _=>true) held 22 v d ps):∃ ops,dF w w.heap.size A n ops:=by
 subst hv
 obtain⟨fuel,hf⟩:=h
 rcases open_slice Tryz.underlying22 hf with ⟨hcs,_⟩ | ⟨a,l,c,m,k,D,Pl,hcs,hb,hl,hm,hmm,hx,hi⟩
 ·simp[Value.cells] at hcs
  obtain⟨rfl,rfl,rfl⟩:=hcs
  exact⟨[],rfl,[],Sl.nil_ _ _ _,fun i l hl=>by simp at hl⟩
 ·simp[Value.cells] at hcs
  obtain⟨rfl,rfl,rfl⟩:=hcs
  rw[show Tryz.prog.cellsOf 52=1 by kernel_rfl] at hi hx
  have hml:n≤m:=by rw[hmm];exact hl
  have hrow:∀ i,i<n→∃ (l:List Opn) (A':Option Addr) (c':Nat),w.cell? (a.add i)=some (.slice A' l.length c')∧Sl w w.heap.size 2 A' l.length (l.flatMap Opn.cells):=fun i hil=>by
   obtain⟨cs',h1,h2⟩:=hi i (by omega)
   rw[Nat.mul_one] at h1
   obtain⟨_,hcl,hat⟩:=World.cells?_some h1
   have hc0:=hat 0 (by omega)
   have hsl:∃ A' n' c',cs'=[.slice A' n' c']:=by
    rcases open_slice Tryz.underlying52 h2 with ⟨e,_⟩ | ⟨a2,l2,c2,_,_,_,_,e,_⟩
    ·exact⟨none,0,0,e⟩
    ·exact⟨some a2,l2,c2,e⟩
   obtain⟨A',n',c',rfl⟩:=hsl
   obtain⟨rows,rl,rk,sl,-,-⟩:=rM (f:=6) (sz:=2) (ks:=[some .i64,some .i64]) (A:=A') (len:=n') (cap:=c') Tryz.underlying52 (by kernel_rfl) (by kernel_rfl) (by omega) ⟨_,h2⟩ (DataW.trod_lt _ _ _ _ h2)
   obtain⟨ops,ho1,ho2⟩:=rN rows rk
   rw[ho2] at sl
   have hln:ops.length=n':=ho1.trans rl
   subst hln
   exact⟨ops,A',c',by simpa [Addr.add] using hc0,sl⟩
  obtain⟨R,hR⟩:∃ R:Nat→List Opn×Option Addr×Nat,∀ i,i<n→w.cell? (a.add i)=some (.slice (R i).2.1 (R i).1.length (R i).2.2)∧Sl w w.heap.size 2 (R i).2.1 (R i).1.length ((R i).1.flatMap Opn.cells):=by
   refine⟨fun i=>if h:i<n then ⟨(hrow i h).choose,(hrow i h).choose_spec.choose,(hrow i h).choose_spec.choose_spec.choose⟩ else ⟨[],none,0⟩,fun i hil=> ?_⟩
   simp only[hil,dif_pos]
   exact(hrow i hil).choose_spec.choose_spec.choose_spec
  have hpl:0<n→a.block<w.heap.size∧a.spot=none:=fun h0=>by
   obtain⟨h1,_⟩:=hR 0 h0
   have h6:a.add 0=a:=by simp[Addr.add]
   rw[h6] at h1
   refine⟨World.block_lt_of_cell? w a h1,?_⟩
   unfold World.cell? at h1
   cases hs:a.spot with
   | none=>rfl
   | some x=>rw[hs] at h1;split at h1<;>simp at h1
  have hadd:0<n→∀ j,a.add j=⟨bt (some a),bY (some a)+j,none⟩:=fun h0 j=>by
   obtain⟨_,hsp⟩:=hpl h0
   obtain⟨b,o,sp⟩:=a
   simp only at hsp
   subst hsp
   unfold Addr.add
   split
   ·rename_i h;subst h;simp[bt,bY]
   ·simp[bt,bY]
  refine⟨(List.range n).map (fun i=>(R i).1),by simp,(List.range n).map (fun i=> .slice (R i).2.1 (R i).1.length (R i).2.2),⟨by simp,fun h0=> ?_,fun h0=> ?_,fun j hj=> ?_⟩,fun i l hl=> ?_⟩
  ·have:=hadd h0 0
   rw[show a.add 0=a by simp[Addr.add]] at this
   simpa using this
  ·simpa [bt] using (hpl h0).1
  ·have hj':j<n:=by simpa using hj
   rw[←hadd (by omega) j,(hR j hj').1]
   simp[hj']
  ·rw[List.getElem?_map] at hl
   obtain⟨i',hi',e⟩:=Option.map_eq_some_iff.1 hl
   have hin:i<n:=by simpa using (List.getElem?_eq_some_iff.1 hi').1
   rw[List.getElem?_range hin] at hi'
   injection hi' with hi'
   subst hi' e
   exact⟨(R i).2.1,(R i).1.length,(R i).2.2,by rw[List.getElem?_map,List.getElem?_range hin];rfl,(hR i hin).2,rfl⟩
theorem Cm {r:Reach} {b0:Nat} {v:Value} {d:DataW H} {ps:List MemPlace} (hw:Value.okWide Tryz.prog w r b0 24 v)
  (h:DataW.Trod enc Tryz.prog w base (fun _=>true) held 24 v d ps):∃ (sh th nd tr:Int) (A:Option Addr) (n cap:Nat) (ops:List (List Opn)),v= .agg #[.int .i64 sh,.int .i64 th,.int .i64 nd,.int .i64 tr,.slice A n cap]∧dF w w.heap.size A n ops:=by
 obtain⟨cs,rfl,hsz⟩:=okWide_struct Tryz.underlying24 hw
 rw[show Tryz.prog.cellsOf 24=5 by kernel_rfl] at hsz
 obtain⟨c0,c1,c2,c3,c4,rfl⟩:∃ c0 c1 c2 c3 c4,cs= #[c0,c1,c2,c3,c4]:=by
  obtain⟨l⟩:=cs
  match l,hsz with
  | [a,b,c,d,e],_=>exact⟨a,b,c,d,e,rfl⟩
 obtain⟨fuel,hf⟩:=h
 obtain⟨xs,m,-,-,-,hxl,hfs⟩:=DataW.trod_struct Tryz.underlying24 hf
 have No:xs.length=5:=hxl
 have get:∀ i,i<5→∃ x,xs[i]? =some x:=fun i hi=>⟨_,List.getElem?_eq_getElem (by omega)⟩
 have h0:=hfs 0 _ rfl
 have h1:=hfs 1 _ rfl
 have h2:=hfs 2 _ rfl
 have h3:=hfs 3 _ rfl
 have h4:=hfs 4 _ rfl
 obtain⟨x0,e0⟩:=get 0 (by omega)
 obtain⟨x1,e1⟩:=get 1 (by omega)
 obtain⟨x2,e2⟩:=get 2 (by omega)
 obtain⟨x3,e3⟩:=get 3 (by omega)
 obtain⟨x4,e4⟩:=get 4 (by omega)
 rw[e0] at h0
 rw[e1] at h1
 rw[e2] at h2
 rw[e3] at h3
 rw[e4] at h4
 replace h0:DataW.trod enc Tryz.prog w base (fun _=>true) held m 3 (([c0,c1,c2,c3,c4].drop 0).take (Tryz.prog.cellsOf 3))=some x0:=h0
 rw[show Tryz.prog.cellsOf 3=1 by kernel_rfl] at h0
 replace h1:DataW.trod enc Tryz.prog w base (fun _=>true) held m 3 (([c0,c1,c2,c3,c4].drop 1).take (Tryz.prog.cellsOf 3))=some x1:=h1
 rw[show Tryz.prog.cellsOf 3=1 by kernel_rfl] at h1
 replace h2:DataW.trod enc Tryz.prog w base (fun _=>true) held m 3 (([c0,c1,c2,c3,c4].drop 2).take (Tryz.prog.cellsOf 3))=some x2:=h2
 rw[show Tryz.prog.cellsOf 3=1 by kernel_rfl] at h2
 replace h3:DataW.trod enc Tryz.prog w base (fun _=>true) held m 3 (([c0,c1,c2,c3,c4].drop 3).take (Tryz.prog.cellsOf 3))=some x3:=h3
 rw[show Tryz.prog.cellsOf 3=1 by kernel_rfl] at h3
 replace h4:DataW.trod enc Tryz.prog w base (fun _=>true) held m 22 (([c0,c1,c2,c3,c4].drop 4).take (Tryz.prog.cellsOf 22))=some x4:=h4
 rw[show Tryz.prog.cellsOf 22=1 by kernel_rfl] at h4
 simp only[List.drop_succ_cons,List.drop_zero,List.take_succ_cons,List.take_zero] at h0 h1 h2 h3 h4
 obtain⟨sh,i0,-⟩:=DataW.trod_int Tryz.underlying3 h0
 obtain⟨th,i1,-⟩:=DataW.trod_int Tryz.underlying3 h1
 obtain⟨nd,i2,-⟩:=DataW.trod_int Tryz.underlying3 h2
 obtain⟨tr,i3,-⟩:=DataW.trod_int Tryz.underlying3 h3
 have hsl:∃ A n c,c4= .slice A n c:=by
  rcases open_slice Tryz.underlying22 h4 with ⟨e,_⟩ | ⟨a2,l2,cc,_,_,_,_,e,_⟩
  ·exact⟨none,0,0,by simpa using e⟩
  ·exact⟨some a2,l2,cc,by simpa using e⟩
 obtain⟨A,n,c,rfl⟩:=hsl
 obtain⟨ops,ho⟩:=xD (enc:=enc) (held:=held) (base:=base) (d:=x4.1) (ps:=x4.2) rfl ⟨m,h4⟩
 refine⟨sh,th,nd,tr,A,n,c,ops,?_,ho⟩
 injection i0 with i0 _
 injection i1 with i1 _
 injection i2 with i2 _
 injection i3 with i3 _
 rw[i0,i1,i2,i3]
end
end Go.Proofs.YtbcnnhlpilmmbaaGreat
