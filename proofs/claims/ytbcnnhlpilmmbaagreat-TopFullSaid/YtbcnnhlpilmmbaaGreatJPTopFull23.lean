/- Texts that are wanted for PTopFull.
   Conditions: none. -/
import Derived.WalkKit
import Derived.ProofKit
import Derived.OpenShut
import Derived.Below
import Derived.Deep.Slices
import Derived.Test.YtbcnnhlpilmmbaaGreatRows
import Derived.WalkSpells
import Derived.WalkLawsBesides
import Derived.Lib.Hide
import Derived.Deep.QuietTactic
import Derived.BigQuiet
import Derived.Deep.LoopGhost
import Derived.Deep.RegionHeld3
import Derived.Deep.AppendLies
import Derived.KernelRfl
import Derived.Deep.DeepCutAuto
import Derived.Test.YtbcnnhlpilmmbaaGreatJPTopFull05
set_option maxRecDepth 100000
set_option maxHeartbeats 6400000
namespace Go.Proofs.YtbcnnhlpilmmbaaGreat
open Go Go.RowKit Go.ChangeShapes Go.WideShapes Go.ChangeAt Go.Deep
def pH (P:Program) (ze:TypeId→Option (List (Option IntKind))):List Field→Nat→Option (List (Option IntKind))
 | [],_=>some []
 | f::fs,off=>
  match ze f.type,decide (f.offset=off) with
  | some a,true=>if a.length=P.cellsOf f.type then (match pH P ze fs (off+a.length) with | some b=>some (a++b) | none=>none) else none
  | _,_=>none
def fY (a:List (Option IntKind)):Nat→List (Option IntKind)
 | 0=>[]
 | n+1=>a++fY a n
def flatK (P:Program):Nat→TypeId→Option (List (Option IntKind))
 | 0,_=>none
 | n+1,t=>
  match P.underlying t with
  | some (.int k)=>some [some k]
  | some .bool=>some [none]
  | some (.struct fs)=>(match pH P (flatK P n) fs.toList 0 with | some a=>if a.length=P.cellsOf t then some a else none | none=>none)
  | some (.array m e)=>(match flatK P n e with | some a=>if a.length=P.cellsOf e∧(fY a m).length=P.cellsOf t then some (fY a m) else none | none=>none)
  | _=>none
def BL:Option IntKind→Value→Prop
 | none,v=>∃ b,v= .bool b
 | some k,v=>∃ n,v= .int k n∧(Lit.int k n).wf=true
def dt:List (Option IntKind)→List Value→Prop
 | [],[]=>True
 | k::ks,v::vs=>BL k v∧dt ks vs
 | _,_=>False
theorem dt.append:∀ {a b:List (Option IntKind)} {x y:List Value},dt a x→dt b y→dt (a++b) (x++y)
 | [],_,[],_,_,h=>h
 | _::_,_,_::_,_,h,h'=>⟨h.1,dt.append h.2 h'⟩
section
variable {H:Type} {enc:TypeId×Value→H} {P:Program} {w:World} {base:Nat} {spare:Nat→Bool} {held:Bool}
theorem ng {n:Nat} {cs:List Value} (ze:TypeId→Option (List (Option IntKind))) (hrec:∀ t ks cs' y,ze t=some ks→DataW.trod enc P w base spare held n t cs'=some y→dt ks cs'):
  ∀ (fs:List Field) (off:Nat) (ks:List (Option IntKind)),pH P ze fs off=some ks→(∀ f∈fs,∃ y,DataW.trod enc P w base spare held n f.type ((cs.drop f.offset).take (P.cellsOf f.type))=some y)→
   dt ks ((cs.drop off).take ks.length)
 | [],off,ks,h,_=>by simp[pH] at h;subst h;simp[dt]
 | f::fs,off,ks,h,hf=>by
  unfold pH at h
  split at h
  ·rename_i a ha ho
   have ho':f.offset=off:=by simpa using ho
   split at h
   ·rename_i hal
    split at h
    ·rename_i b hb
     injection h with h
     subst h
     obtain⟨y,hy⟩:=hf f (List.mem_cons_self ..)
     have h1:=hrec _ _ _ _ ha hy
     have h2:=ng ze hrec fs (off+a.length) b hb (fun g hg=>hf g (List.mem_cons_of_mem _ hg))
     rw[ho',←hal] at h1
     have e:(cs.drop off).take (a++b).length=(cs.drop off).take a.length++(cs.drop (off+a.length)).take b.length:=by
      rw[List.length_append,List.take_add,List.drop_drop]
     rw[e]
     exact dt.append h1 h2
    ·cases h
   ·cases h
  ·cases h
theorem lY {cs:List Value} {a:List (Option IntKind)} (sz:Nat) (hsz:a.length=sz):∀ (m i:Nat),(∀ j,i≤j→j<i+m→dt a ((cs.drop (j*sz)).take sz))→dt (fY a m) ((cs.drop (i*sz)).take (fY a m).length)
 | 0,_,_=>by simp[fY,dt]
 | m+1,i,h=>by
  have h1:=h i (Nat.le_refl _) (by omega)
  have h2:=lY sz hsz m (i+1) (fun j hj hj'=>h j (by omega) (by omega))
  have e:(cs.drop (i*sz)).take (fY a (m+1)).length=(cs.drop (i*sz)).take sz++(cs.drop ((i+1)*sz)).take (fY a m).length:=by
   simp only[fY,List.length_append,hsz]
   rw[List.take_add,List.drop_drop,Nat.add_mul,Nat.one_mul]
  rw[e]
  exact dt.append h1 h2
theorem la:∀ (f n:Nat) (t:TypeId) (ks:List (Option IntKind)) (cs:List Value) (y:DataW H×List MemPlace),flatK P f t=some ks→DataW.trod enc P w base spare held n t cs=some y→dt ks cs
 | 0,_,_,_,_,_,h,_=>by simp[flatK] at h
 | f+1,n,t,ks,cs,y,h,hy=>by
  unfold flatK at h
  split at h
  ·rename_i k hu
   injection h with h;subst h
   obtain⟨x,rfl,_,hw⟩:=DataW.trod_int hu hy
   exact⟨⟨x,rfl,hw⟩,trivial⟩
  ·rename_i hu
   injection h with h;subst h
   obtain⟨b,rfl,_⟩:=DataW.trod_bool hu hy
   exact⟨⟨b,rfl⟩,trivial⟩
  ·rename_i fs hu
   split at h
   ·rename_i a ha
    split at h
    ·rename_i hal
     injection h with h;subst h
     obtain⟨xs,m,_,_,hlen,hxl,hf⟩:=DataW.trod_struct hu hy
     have:=ng (cs:=cs) (flatK P f) (fun t ks cs' y h1 h2=>la f m t ks cs' y h1 h2) fs.toList 0 a ha (fun g hg=>by
      obtain⟨j,hj,hjg⟩:=List.getElem_of_mem hg
      have hj':fs[j]? =some g:=by rw[←Array.getElem?_toList,List.getElem?_eq_getElem hj,hjg]
      have h3:=hf j g hj'
      have hjl:j<xs.length:=by rw[hxl];simpa using hj
      rw[List.getElem?_eq_getElem hjl] at h3
      exact⟨_,h3⟩)
     rw[List.drop_zero,hal,←hlen,List.take_length] at this
     exact this
    ·cases h
   ·cases h
  ·rename_i m e hu
   split at h
   ·rename_i a ha
    split at h
    ·rename_i hal
     injection h with h;subst h
     obtain⟨xs,m',_,_,hlen,hxl,hf⟩:=DataW.trod_array hu hy
     have:=lY (cs:=cs) (P.cellsOf e) hal.1 m 0 (fun j _ hj=>by
      have h3:=hf j (by omega)
      have hjl:j<xs.length:=by rw[hxl];omega
      rw[List.getElem?_eq_getElem hjl] at h3
      exact la f m' e a _ _ ha h3)
     rw[Nat.zero_mul,List.drop_zero,hal.2,←hlen,List.take_length] at this
     exact this
    ·cases h
   ·cases h
  ·cases h
theorem rM {t e:TypeId} {f sz:Nat} {ks:List (Option IntKind)} {A:Option Addr} {len cap:Nat} {d:DataW H} {ps:List MemPlace} (ht:P.underlying t=some (.slice e)) (hk:flatK P f e=some ks) (hC:P.cellsOf e=sz) (hsz:0<sz)
  (h:DataW.Trod enc P w base (fun _=>true) held t (.slice A len cap) d ps) (_:∀ x∈ps,x.block<w.heap.size):
  ∃ rows:List (List Value),rows.length=len∧(∀ r∈rows,dt ks r)∧Sl w w.heap.size sz A len rows.flatten∧len≤cap∧(A=none→len=0∧cap=0):=by
 obtain⟨fuel,hf⟩:=h
 rcases open_slice ht hf with ⟨hcs,_⟩ | ⟨a,l,c,m,n,D,Pl,hcs,hb,hl,hm,hmm,hx,hi⟩
 ·simp[Value.cells] at hcs
  obtain⟨rfl,rfl,rfl⟩:=hcs
  exact⟨[],rfl,by simp,Sl.nil_ _ _ _,Nat.le_refl _,fun _=>⟨rfl,rfl⟩⟩
 ·simp[Value.cells] at hcs
  obtain⟨rfl,rfl,rfl⟩:=hcs
  rw[hC] at hi hx
  have hml:len≤m:=by rw[hmm];exact hl
  have hrow:∀ i,i<len→∃ r:List Value,r.length=sz∧dt ks r∧∀ j,j<sz→w.cell? ((a.add (i*sz)).add j)=r[j]? :=fun i hil=>by
   obtain⟨cs',h1,h2⟩:=hi i (by omega)
   obtain⟨_,hcl,hat⟩:=World.cells?_some h1
   exact⟨cs',hcl,la f n e ks cs' _ hk h2,hat⟩
  obtain⟨R,hR⟩:∃ R:Nat→List Value,∀ i,i<len→(R i).length=sz∧dt ks (R i)∧∀ j,j<sz→w.cell? ((a.add (i*sz)).add j)=(R i)[j]? :=by
   refine⟨fun i=>if h:i<len then (hrow i h).choose else [],fun i hil=> ?_⟩
   simp only[hil,dif_pos]
   exact(hrow i hil).choose_spec
  have hpl:0<len→a.block<w.heap.size∧a.spot=none:=fun h0=>by
   obtain⟨h1,_,h3⟩:=hR 0 h0
   have h4:=h3 0 hsz
   have h5:∃ u,(R 0)[0]? =some u:=⟨_,List.getElem?_eq_getElem (by omega)⟩
   obtain⟨u,hu⟩:=h5
   rw[hu] at h4
   have h6:(a.add (0*sz)).add 0=a:=by simp[Addr.add]
   rw[h6] at h4
   refine⟨World.block_lt_of_cell? w a h4,?_⟩
   unfold World.cell? at h4
   cases hs:a.spot with
   | none=>rfl
   | some x=>rw[hs] at h4;split at h4<;>simp at h4
  refine⟨(List.range len).map R,by simp,fun r hr=> ?_,⟨?_,fun h0=> ?_,fun h0=> ?_,fun j hj=> ?_⟩,hl,fun h=>by cases h⟩
  ·obtain⟨i,hi',rfl⟩:=List.mem_map.1 hr
   exact(hR i (by simpa using hi')).2.1
  ·rw[List.length_flatten]
   have:((List.range len).map R).map List.length=List.replicate len sz:=by
    apply List.ext_getElem
    ·simp
    ·intro i h1 h2
     simp at h1⊢
     exact(hR i h1).1
   rw[this];simp
  ·obtain⟨_,hsp⟩:=hpl h0
   obtain⟨b,o,sp⟩:=a
   simp only at hsp
   subst hsp
   simp[bt,bY]
  ·obtain⟨hb',_⟩:=hpl h0
   simpa [bt] using hb'
  ·have h0:0<len:=by
    rcases Nat.eq_zero_or_pos len with h | h
    ·subst h;simp at hj
    ·exact h
   obtain⟨_,hsp⟩:=hpl h0
   have hjq:j / sz<len:=Nat.div_lt_of_lt_mul (by rw[Nat.mul_comm];exact hj)
   have hjr:j % sz<sz:=Nat.mod_lt _ hsz
   have h7:=(hR (j / sz) hjq).2.2 (j % sz) hjr
   have hjj:j / sz*sz+j % sz=j:=by rw[Nat.mul_comm];exact Nat.div_add_mod j sz
   have h8:(a.add (j / sz*sz)).add (j % sz)=⟨bt (some a),bY (some a)+j,none⟩:=by
    obtain⟨b,o,sp⟩:=a
    simp only at hsp
    subst hsp
    rw[Go.Deep.add_add,hjj]
    unfold Addr.add
    split
    ·rename_i h;subst h;simp[bt,bY]
    ·simp[bt,bY]
   rw[h8] at h7
   rw[h7]
   have h9:=fS (fun r:List Value=>r) sz
   clear h9
   have key:∀ (l:List (List Value)) (k i:Nat) (x:List Value),(∀ r∈l,r.length=sz)→l[k]? =some x→i<sz→l.flatten[k*sz+i]? =x[i]? :=by
    intro l
    induction l with
    | nil=>intro k i x _ h;simp at h
    | cons y l ih=>
     intro k i x hall h hi
     have hy:y.length=sz:=hall y (List.mem_cons_self ..)
     cases k with
     | zero=>
      simp at h;subst h
      simp[List.flatten_cons,List.getElem?_append,hy,hi]
     | succ k=>
      simp at h
      rw[List.flatten_cons,List.getElem?_append_right (by rw[hy,Nat.add_mul];omega),hy]
      have:(k+1)*sz+i - sz=k*sz+i:=by rw[Nat.add_mul];omega
      rw[this]
      exact ih k i x (fun r hr=>hall r (List.mem_cons_of_mem _ hr)) h hi
   have hk2:=key ((List.range len).map R) (j / sz) (j % sz) (R (j / sz)) (fun r hr=>by
    obtain⟨i,hi',rfl⟩:=List.mem_map.1 hr
    exact(hR i (by simpa using hi')).1) (by simp[hjq]) hjr
   rw[hjj] at hk2
   exact hk2.symm
theorem dt.cons_inv {k:Option IntKind} {ks:List (Option IntKind)} {l:List Value} (h:dt (k::ks) l):∃ v l',l=v::l'∧BL k v∧dt ks l':=by
 cases l with
 | nil=>exact h.elim
 | cons v l'=>exact⟨v,l',rfl,h.1,h.2⟩
theorem dt.DW {l:List Value} (h:dt [] l):l=[]:=by
 cases l with
 | nil=>rfl
 | cons v l'=>exact h.elim
theorem dt.two {l:List Value} (h:dt [some .i64,some .i64] l):∃ a b,l=[.int .i64 a,.int .i64 b]:=by
 obtain⟨_,_,rfl,⟨x,rfl,_⟩,h1⟩:=h.cons_inv
 obtain⟨_,_,rfl,⟨y,rfl,_⟩,h2⟩:=h1.cons_inv
 obtain rfl:=h2.DW
 exact⟨x,y,rfl⟩
end
open Go Go.RowKit
theorem rN:∀ rows:List (List Value),(∀ r∈rows,dt [some .i64,some .i64] r)→∃ ops:List Opn,ops.length=rows.length∧rows.flatten=ops.flatMap Opn.cells
 | [],_=>⟨[],rfl,rfl⟩
 | r::rows,h=>by
  obtain⟨a,b,rfl⟩:=(h r (List.mem_cons_self ..)).two
  obtain⟨ops,h1,h2⟩:=rN rows (fun x hx=>h x (List.mem_cons_of_mem _ hx))
  exact⟨⟨a,b⟩::ops,by simp[h1],by simp[h2,Opn.cells]⟩
theorem zf:(Tryz.prog.info? 85).map (fun i=>(i.zero,i.size,i.bytes))=some (some (.agg #[.int .i64 0,.int .i64 0,.int .i64 0]),3,24):=by kernel_rfl
theorem EE:(Tryz.prog.info? 46).map (·.size)=some 2:=by kernel_rfl
variable {w:World}
theorem rO {B n:Nat} {A:Option Addr} {ops:List Opn} (h:Sl w B 2 A n (ops.flatMap Opn.cells)) {k:Nat} {o:Opn} (hk:k<n) (he:ops[k]? =some o):
  w.cell? ⟨bt A,bY A+k*2,none⟩=some (.int .i64 o.kind)∧w.cell? ⟨bt A,bY A+k*2+1,none⟩=some (.int .i64 o.key):=by
 have key:∀ i,i<2→w.cell? ⟨bt A,bY A+k*2+i,none⟩=o.cells[i]? :=fun i hi=>by
  rw[h.at_ hk hi,fS Opn.cells 2 Opn.db ops k i o he hi]
 exact⟨key 0 (by omega),key 1 (by omega)⟩
def eS (sh:Int) (o:Opn):List Value:=[.int .i64 sh,.int .i64 o.kind,.int .i64 o.key]
theorem u6 (sh:Int) (o:Opn):∀ u∈eS sh o,u.oneCell'=true:=by intro u hu;simp[eS] at hu;rcases hu with rfl | rfl | rfl<;>rfl
def LZ (sh:Int) (ops:List Opn) (w:World) (e:Ending) (w':World):Prop:=
 (if ops.all (may sh) then ∃ v,e= .returned (.tuple #[v,.int .i64 0])∧w'.ownsRow w.heap.size 85 3 v ops.length (ops.flatMap (eS sh)) else e= .returned (.tuple #[.slice none 0 0,.int .i64 1]))∧Below w.heap.size w w'
variable {sh:Int}
theorem FQ {ops:List Opn} {w w':World} {k:Nat} {o:Opn} (ho:ops[k]? =some o) (hm:may sh o=false) (hb:Below w.heap.size w w'):LZ sh ops w (.returned (.tuple #[.slice none 0 0,.int .i64 1])) w':=by
 refine⟨?_,hb⟩
 rw[if_neg]
 intro h
 have:=List.all_eq_true.1 h o (List.mem_of_getElem? ho)
 rw[hm] at this;cases this
theorem kC {p:Opn→Bool} {ops:List Opn} {k:Nat} {o:Opn} (ho:ops[k]? =some o) (h:(ops.take k).all p=true) (hp:p o=true):(ops.take (k+1)).all p=true:=by
 rw[List.take_add_one,ho];simp[h,hp]
theorem pI {α β:Type} (f:α→List β) {l:List α} {k:Nat} {o:α} (ho:l[k]? =some o):(l.take (k+1)).flatMap f=(l.take k).flatMap f++f o:=by
 rw[List.take_add_one,ho];simp
theorem DX (K:Int) (A:Option Addr) (n c B:Nat) (ops:List Opn) (w:World) (hs:Sl w B 2 A n (ops.flatMap Opn.cells)) (hB:B≤w.heap.size) (hel:ops.length=n) (hn:n≤1000):
  Calls Tryz.prog 46 #[.int .i64 K,.slice A n c] w (LZ K ops w):=by
 obtain⟨iO,JI,zO,sO,bO⟩:=info_parts zf
 have HL:=Lib.hid hel
 clear hel
 obtain⟨N,hN⟩:∃ N,w.heap.size=N:=⟨_,rfl⟩
 rw[hN] at hB
 have hb0:Below N w w:=Below.refl _ _
 have hN0:N≤w.heap.size:=by omega
 have HN:=Lib.hid hN
 clear hN
 go_enter Tryz.func46,Tryz.ntmps46
 go_wp2_with fail
 go_loopw [11,6] (fun i did wr=>∃ k:Nat,k≤n∧i= .int .i64 k∧Hid ((ops.take k).all (may K)=true)∧wr.ownsRow N 85 3 did k ((ops.take k).flatMap (eS K))∧Below N w wr∧N≤wr.heap.size) (fun i _ _=>n - (intOf i).toNat)
 case atStart=>exact⟨0,by omega,rfl,Lib.hid rfl,World.ownsRow_nil _ _ _ _,hb0,hN0⟩
 case round=>
  obtain⟨k,hk,rfl,hm,hown,hb,Ju⟩:=hrel
  by_cases hlt:k<n
  ·have dk:decide ((k:Int)<(n:Int))=true:=by simp;omega
   obtain⟨o,ho⟩:∃ o,ops[k]? =some o:=⟨_,List.getElem?_eq_getElem (by rw[HL.out];exact hlt)⟩
   have hsw:=hs.below (hb.mono hB)
   have hidx:=hsw.idx (P:=Tryz.prog) (c:=c) Tryz.underlying52 EE hlt
   obtain⟨f0,f1⟩:=rO hsw hlt ho
   have HO:=Lib.hid ho
   have HM:=Lib.hid (fun W=>bW K o.kind o.key W)
   clear ho hsw
   obtain⟨A7,c7,rfl,G2,-,-⟩:=bF hown
   go_upto_region 5 with (fail)
   clear f0 f1 hidx
   have hb7:Below wr.heap.size wr (wr.alloc (.cells #[.int .i64 o.kind,.int .i64 o.key] 46)):=(Below.refl _ _).alloc (Nat.le_refl _) _
   have hx:=a8.new wr 46 #[.int .i64 o.kind,.int .i64 o.key]
   generalize(wr.alloc (.cells #[.int .i64 o.kind,.int .i64 o.key] 46))=W at *
   have L1:=cW hown hb7
   have hb':=hb.trans (hb7.mono Ju)
   have hws:=hb7.size
   have cx:=hx.cells
   clear hown hb hb7
   go_wp2_with fail
   refine(HM.out W).mono ?_
   rintro e W8 ⟨rfl,hb8⟩
   have L2:=cW L1 hb8
   have FR:=hb'.trans (hb8.mono (by omega))
   have KB:=hx.step hb8
   have hs8:=hb8.size
   clear L1 hb' hb8 cx hx HM
   have M3:Hid (Proofs.YtbcnnhlpilmmbaaGreat.may K ⟨o.kind,o.key⟩=may K o):=Lib.hid rfl
   rw[M3.out]
   cases hmay:may K o with
   | false=>
    have M4:=Lib.hid hmay
    clear hmay
    go_wp2_with fail
    refine bodyPost_ret (v:= .tuple #[.slice none 0 0,.int .i64 1]) (by simp[results,Tryz.results46,go_sem]) rfl (FQ HO.out M4.out ?_)
    rw[HN.out];exact FR
   | true=>
    have hm':=Lib.hid (kC HO.out hm.out hmay)
    have zH:=Lib.hid (pI (eS K) HO.out)
    clear hmay
    have cx:=KB.cells
    have hxl:=KB.lt
    have own':=L2.alloc (.cells #[.int .i64 K,.int .i64 o.kind,.int .i64 o.key] 85)
    go_wp2_with (at_builtin;refine wpList_append_lies _ rfl _ _ _ rfl N 85 iO _ 3 24 Tryz.underlying87 JI zO sO bO rfl (by omega) (.slice A7 k c7) k ((ops.take k).flatMap (eS K)) rfl own' ⟨W8.heap.size,0,none⟩ 1 1 (eS K o) rfl rfl (World.news_of_block (heap_alloc_new W8 _)) (u6 K o) (by omega) (by unfold maxLen;omega) (by omega) (by simp;omega) (W8.heap.size+1) (by simp) ?_;intro g cap Cq hown2 hgrow hat hlt2)
    have Ih:Cq.ownsRow N 85 3 (.slice (some ⟨g,0,none⟩) (k+1) cap) (k+1) ((ops.take (k+1)).flatMap (eS K)):=by rw[zH.out];simpa using hown2
    have Ii:=((FR.alloc (by omega) (.cells #[.int .i64 K,.int .i64 o.kind,.int .i64 o.key] 85)).grown hgrow (by simp;omega) (fun x hx=>(bH own' x hx).1))
    have Ij:=hgrow.size
    have M5:W8.heap.size+1≤Cq.heap.size:=by simpa using Ij
    clear hown2 hgrow hat hlt2 own' L2 FR Ij zH hm KB cx
    go_wp2_with fail
    go_roundw
    case rel=>exact⟨k+1,by omega,by go_num,(by first | exact hm' | exact trivial),Ih,Ii,by omega⟩
    case measure=>simp[intOf]<;>omega
  ·have dk:decide ((k:Int)<(n:Int))=false:=by simp;omega
   have hkn:k=n:=by omega
   subst hkn
   have hA:ops.take k=ops:=List.take_of_length_le (by rw[HL.out];exact Nat.le_refl _)
   rw[hA] at hown
   have HA:=Lib.hid (show ops.all (may K)=true by rw[←hA];exact hm.out)
   clear hA
   obtain⟨A7,c7,hv,G2,-,-⟩:=bF hown
   subst hv
   clear G2
   go_wp2_with fail
   refine bodyPost_ret (v:= .tuple #[.slice A7 k c7,.int .i64 0]) (by simp[results,Tryz.results46,go_sem]) rfl ⟨?_,by rw[HN.out];exact hb⟩
   rw[if_pos HA.out,HN.out,HL.out]
   exact⟨_,rfl,hown⟩
theorem lZ {a b:Bool} (h:a=b):Ending.returned (.bool a)= .returned (.bool b):=by rw[h]
theorem te (a b:Int) (w:World):
  Calls Tryz.prog 41 #[.agg #[.int .i64 a,.int .i64 b]] w fun e w'=>e= .returned (.bool (decide (b<0)))∧Below w.heap.size w w':=by
 go_enter Tryz.func41,Tryz.ntmps41
 go_wp2
 go_ret
 exact⟨rfl,(Below.refl _ _).alloc (Nat.le_refl _) _⟩
theorem ju (a b:Int) (w:World) (r:Bool) (h:decide (b<0)=r):
  Calls Tryz.prog 41 #[.agg #[.int .i64 a,.int .i64 b]] w fun e w'=>e= .returned (.bool r)∧Below w.heap.size w w':=by
 subst h;exact te a b w
abbrev HAt (w:World) (B b:Nat) (s:HS):Prop:=eu 100 51 109 w B b s
theorem BM (w:World):Calls Tryz.prog 45 #[] w fun e w'=>e= .returned (.pointer (some ⟨w.heap.size,0,none⟩))∧HAt w' w.heap.size w.heap.size HS.new∧Below w.heap.size w w':=by
 go_enter Tryz.func45,Tryz.ntmps45
 go_wp2
 go_ret
 refine⟨rfl,⟨HS.ET,Nat.le_refl _,_,_,_,a8.new _ _ _,rfl,rfl,rfl,?_,World.ownsRow_nil _ _ _ _,World.ownsRow_nil _ _ _ _⟩,(Below.refl _ _).alloc (Nat.le_refl _) _⟩
 intro t ht
 match t,ht with
 | 0,_=>rfl
 | 1,_=>rfl
 | 2,_=>rfl
 | 3,_=>rfl
 | 4,_=>rfl
 | 5,_=>rfl
 | 6,_=>rfl
 | 7,_=>rfl
theorem dQ (t:Int) (w:World):Calls Tryz.prog 50 #[.int .i64 t] w fun e w'=>e= .returned (.bool (decide (0≤t) && decide (t<8)))∧w=w':=by
 by_cases h:0≤t
 ·go_enter Tryz.func50,Tryz.ntmps50
  go_wp2
  go_ret
  exact⟨lZ (by simp[h]),rfl⟩
 ·go_enter Tryz.func50,Tryz.ntmps50
  go_wp2
  go_ret
  exact⟨lZ (by simp;omega),rfl⟩
theorem fZ (b:Nat) (s:HS) (B:Nat) (t:Int) (w:World) (h:HAt w B b s):
  Calls Tryz.prog 51 #[.pointer (some ⟨b,0,none⟩),.int .i64 t] w fun e w'=>e= .returned (.bool (s.pend t))∧w=w':=by
 obtain⟨v1,v2,cs,hr⟩:=h.at_
 by_cases hk:0≤t∧t<8
 ·obtain⟨t,rfl⟩:=Int.eq_ofNat_of_zero_le hk.1
  have ht:t<8:=by omega
  have hcell:=hr.fn ht
  have hkb:(decide (0≤(t:Int)) && decide ((t:Int)<8))=true:=by simp;omega
  clear hr h
  have HK:=Lib.hid hkb
  clear hkb
  go_enter Tryz.func51,Tryz.ntmps51
  go_wp2_with (go_at_call 50;refine(dQ _ _).mono ?_;rw[HK.out];rintro e w1 ⟨rfl,rfl⟩)
  go_ret
  exact⟨lZ (by simp[HS.pend];omega),rfl⟩
 ·have hkb:(decide (0≤t) && decide (t<8))=false:=by simp;omega
  have hp:s.pend t=false:=by simp only[HS.pend,hkb];rfl
  have HK:=Lib.hid hkb
  have HP:=Lib.hid hp
  clear hkb hp hr h
  go_enter Tryz.func51,Tryz.ntmps51
  go_wp2_with (go_at_call 50;refine(dQ _ _).mono ?_;rw[HK.out];rintro e w1 ⟨rfl,rfl⟩)
  go_ret
  exact⟨lZ (HP.out.symm),rfl⟩
theorem lg:(Tryz.prog.info? 51).map (fun i=>(i.zero,i.size,i.bytes))=some (some (.agg #[.int .i64 0,.bool false,.int .i64 0,.int .i64 0,.int .i64 0,.bool false,.int .i64 0]),7,56):=by kernel_rfl
theorem rP:(Tryz.prog.info? 109).map (fun i=>(i.zero,i.size,i.bytes))=some (some (.agg #[.int .i64 0,.int .i64 0,.int .i64 0,.int .i64 0,.int .i64 0,.int .i64 0,.int .i64 0,.bool false,.int .i64 0]),9,72):=by kernel_rfl
theorem qV (b:Nat) (s:HS) (B:Nat) (t:Nat) (kind key:Int) (w:World) (h:HAt w B b s) (hBw:B≤w.heap.size) (ht:t<8) (hno:¬ 0<s.now t) (hsz:s.evs.length≤1000):
  Calls Tryz.prog 31 #[.pointer (some ⟨b,0,none⟩),.int .i64 t,.agg #[.int .i64 kind,.int .i64 key]] w fun e w'=>
   e= .returned (.int .i64 0)∧HAt w' B b (s.zU t kind key)∧Kp B [100,51,109] w w':=by
 obtain⟨iE,KC,zE,sE,bE⟩:=info_parts lg
 obtain⟨iC,M6,zC,sC,bC⟩:=info_parts rP
 obtain⟨v1,v2,cs,hr⟩:=h.at_
 have hwf:=h.wf
 have hbase:=h.base
 have hle:=hwf.le
 have hbl:=hr.lt
 have hkb:(decide (0≤(t:Int)) && decide ((t:Int)<8))=true:=by simp;omega
 have hp:s.pend t=false:=by simp[HS.pend];omega
 have HK:=Lib.hid hkb
 have HP:=Lib.hid hp
 clear hkb hp
 go_enter Tryz.func31,Tryz.ntmps31
 go_wp2_with (first
  | (go_at_call 50;refine(dQ _ _).mono ?_;rw[HK.out];rintro e w1 ⟨rfl,rfl⟩)
  | (go_at_call 51;refine(fZ b s B _ _ (h.alloc _)).mono ?_;rw[HP.out];rintro e w1 ⟨rfl,rfl⟩))
 obtain⟨A1,m1,rfl,-⟩:=bF hr.o1
 obtain⟨A2,m2,rfl,-⟩:=bF hr.o2
 have hr0:=hr.alloc (.cells #[.int .i64 kind,.int .i64 key] 46)
 have hq0:=a8.new w 46 #[.int .i64 kind,.int .i64 key]
 have k0:Kp B [100,51,109] w (w.alloc (.cells #[.int .i64 kind,.int .i64 key] 46)):=(Kp.refl _ _ _).alloc hBw _
 clear hr h
 generalize(w.alloc (.cells #[.int .i64 kind,.int .i64 key] 46))=W at *
 have L3:=hr0.lt
 have f0:=Later.cell (B:=W.heap.size) hr0.f0 hr0.lt
 have f1:=Later.cell (B:=W.heap.size) hr0.f1 hr0.lt
 have f2:=Later.cells hq0 hq0.lt
 refine cZ (fun w'=>∃ q:Later W.heap.size W,w'=q.val) 20 [0,1,2,3,4,5,6,7,8,9,10,11,12,13,14,15,16,17,18] [19,20,21,22,23] (by kernel_rfl) (by kernel_rfl) (Later.bI (Below.refl _ _).drew) ?_
 simp only[au,List.map_cons,List.map_nil,List.getD_cons_zero,List.getD_cons_succ]
 repeat(go_big_quiet_step (fail))
 refine wpQuiet_nil ?_
 refine ay rfl (fun K hK=> ?_)
 go_simp
 refine hK _ _ (Later.bI ((Below.refl _ _).alloc (Nat.le_refl _) _).drew) ?_
 clear hK K
 refine ae _ _ _ (by kernel_rfl) ?_
 simp only[au,List.map_cons,List.map_nil,List.getD_cons_zero,List.getD_cons_succ]
 refine wpList_append_lies _ rfl _ _ _ rfl B 109 iC _ 9 72 Tryz.underlying97 M6 zC sC bC rfl (by omega) (.slice A2 s.calls.length m2) s.calls.length (s.calls.flatMap HC.cells) rfl ((hr0.o2.alloc _).drew) ⟨W.heap.size,0,none⟩ 1 1 (HC.cells ⟨s.evs.length,-1,s.calls.length,t,kind,key,0,false,0⟩) rfl rfl (World.news_of_block (heap_alloc_new W _)) (HC.cells_one _) (by omega) (by unfold maxLen;omega) (by omega) (by simp;omega) (W.heap.size+1) (by simp) ?_
 intro gg cap w1 hown1 hgrow hat hlt
 have fb:=a8.grown (a8.drew (hr0.blk.alloc (.cells #[.int .i64 s.evs.length,.int .i64 (-1),.int .i64 s.calls.length,.int .i64 t,.int .i64 kind,.int .i64 key,.int .i64 0,.bool false,.int .i64 0] 109))) hgrow (own_ne hr0.o2 hr0.blk (by decide))
 have fz:=fb.frozen 1
 have fc:=(fb.cell 1).trans hr0.c1
 have k1:Kp B [100,51,109] w w1:=((k0.alloc (by omega) _).drew).own ((hr0.o2.alloc _).drew) (Nat.le_refl _) (by simp;omega) (by decide) hgrow
 have hq1:a8 w1 w.heap.size 46 #[.int .i64 kind,.int .i64 key]:=a8.grown (a8.drew (hq0.alloc _)) hgrow (own_ne hr0.o2 hq0 (by decide))
 have hr1:=((hr0.alloc (.cells #[.int .i64 s.evs.length,.int .i64 (-1),.int .i64 s.calls.length,.int .i64 t,.int .i64 kind,.int .i64 key,.int .i64 0,.bool false,.int .i64 0] 109)).drew).zV (by decide) (by decide) (by decide) (calls':=s.calls++[⟨s.evs.length,-1,s.calls.length,t,kind,key,0,false,0⟩]) (n':=s.calls.length+1) (by simp) (by simpa using hown1) hgrow
 have k1':=k1.setB fb hbase (by decide) 1 (.slice (some ⟨gg,0,none⟩) (s.calls.length+1) cap)
 have hq1':=hq1.far (p:=⟨b,1,none⟩) (hq1.q8 fb (by decide)) (.slice (some ⟨gg,0,none⟩) (s.calls.length+1) cap)
 clear f0 f1 f2 hown1 hgrow hat hr0 hq0 k0 hq1 k1 fb
 go_wp2_with fail
 refine NoPanic.normal ?_
 generalize(w1.setCell ⟨b,1,none⟩ (.slice (some ⟨gg,0,none⟩) (s.calls.length+1) cap))=W2 at *
 clear fz fc hlt
 go_wp2_with fail
 obtain⟨NB,NC,hv2,-⟩:=bF hr1.o2
 have hW2:=hr1.lt
 have f0:=Later.cell (B:=W2.heap.size) hr1.f0 hr1.lt
 have f2:=Later.cells hq1' hq1'.lt
 refine cZ (fun w'=>∃ q:Later W2.heap.size W2,w'=q.val) 9 [0,1,2,3,4,5,6,7] [8,9,10,11,12] (by kernel_rfl) (by kernel_rfl) (Later.bI (Below.refl _ _).drew) ?_
 simp only[au,List.map_cons,List.map_nil,List.getD_cons_zero,List.getD_cons_succ]
 repeat(go_big_quiet_step (fail))
 refine wpQuiet_nil ?_
 refine ay rfl (fun K hK=> ?_)
 go_simp
 refine hK _ _ (Later.bI ((Below.refl _ _).alloc (Nat.le_refl _) _).drew) ?_
 clear hK K
 refine ae _ _ _ (by kernel_rfl) ?_
 simp only[au,List.map_cons,List.map_nil,List.getD_cons_zero,List.getD_cons_succ]
 refine wpList_append_lies _ rfl _ _ _ rfl B 51 iE _ 7 56 Tryz.underlying41 KC zE sE bE rfl (by omega) (.slice A1 s.evs.length m1) s.evs.length (s.evs.flatMap Ev.cells) rfl ((hr1.o1.alloc _).drew) ⟨W2.heap.size,0,none⟩ 1 1 (Ev.cells (JQ t kind key)) rfl rfl (World.news_of_block (heap_alloc_new W2 _)) (Ev.cells_one _) (by omega) (by unfold maxLen;omega) (by omega) (by simp;omega) (W2.heap.size+1) (by simp) ?_
 intro g2 cap2 w3 hown1 hgrow hat hlt
 have fb:=a8.grown (a8.drew (hr1.blk.alloc (.cells #[.int .i64 t,.bool false,.int .i64 kind,.int .i64 key,.int .i64 0,.bool false,.int .i64 0] 51))) hgrow (own_ne hr1.o1 hr1.blk (by decide))
 have fz:=fb.frozen 0
 have fc:=(fb.cell 0).trans hr1.c0
 have k1:Kp B [100,51,109] w w3:=((k1'.alloc (by omega) _).drew).own ((hr1.o1.alloc _).drew) (Nat.le_refl _) (by simp;omega) (by decide) hgrow
 have hr2:=((hr1.alloc (.cells #[.int .i64 t,.bool false,.int .i64 kind,.int .i64 key,.int .i64 0,.bool false,.int .i64 0] 51)).drew).zW (by decide) (by decide) (by decide) (zX:=s.evs++[JQ t kind key]) (n':=s.evs.length+1) (by simp) (by simpa using hown1) hgrow
 have k2:=k1.setB fb hbase (by decide) 0 (.slice (some ⟨g2,0,none⟩) (s.evs.length+1) cap2)
 clear f0 f2 hown1 hgrow hat hr1 hq1' k1' k1 fb
 go_wp2_with fail
 refine NoPanic.normal ?_
 generalize(w3.setCell ⟨b,0,none⟩ (.slice (some ⟨g2,0,none⟩) (s.evs.length+1) cap2))=W3 at *
 clear fz fc hlt
 go_wp2_with fail
 have f1:=Later.cell (B:=W3.heap.size) hr2.f1 hr2.lt
 have hi0:(0:Int)≤(t:Int):=Int.natCast_nonneg _
 have hi1:(t:Int)<8:=by omega
 refine cZ (fun w'=>∃ q:Later W3.heap.size W3,w'=q.val) 10 [0,1,2,3,4,5,6,7,8,9] [10] (by kernel_rfl) (by kernel_rfl) (Later.bI (Below.refl _ _).drew) ?_
 simp only[au,List.map_cons,List.map_nil,List.getD_cons_zero,List.getD_cons_succ]
 repeat(go_big_quiet_step (fail))
 refine wpQuiet_nil ?_
 refine ae _ _ _ (by kernel_rfl) ?_
 simp only[au,List.map_cons,List.map_nil,List.getD_cons_zero,List.getD_cons_succ]
 have fz:=hr2.drew.blk.frozen (2+t)
 have fc:=hr2.drew.fn ht
 have hr3:=hr2.drew.zY (by decide) (by decide) ht ((s.calls.length:Int)+1)
 have k3:=k2.drew.setB hr2.drew.blk hbase (by decide) (2+t) (.int .i64 ((s.calls.length:Int)+1))
 clear f1 hr2 k2
 go_wp2_with fail
 refine NoPanic.normal ?_
 go_wp2_with fail
 go_ret
 exact⟨rfl,⟨HS.EU hwf _ _ _,hbase,_,_,_,hr3⟩,k3⟩
theorem pJ (b:Nat) (s:HS) (B:Nat) (t kind key:Int) (w:World) (h:HAt w B b s) (hBw:B≤w.heap.size) (hsz:s.evs.length≤1000):
  Calls Tryz.prog 31 #[.pointer (some ⟨b,0,none⟩),.int .i64 t,.agg #[.int .i64 kind,.int .i64 key]] w fun e w'=>
   e= .returned (.int .i64 (s.qg t))∧HAt w' B b (s.begin_ t kind key)∧Kp B [100,51,109] w w':=by
 by_cases hk:0≤t∧t<8
 ·obtain⟨t,rfl⟩:=Int.eq_ofNat_of_zero_le hk.1
  have ht:t<8:=by omega
  have hk':¬ ((t:Int)<0∨8≤(t:Int)):=by omega
  by_cases hp:0<s.now t
  ·have he:s.qg t=1:=by simp only[HS.qg,if_neg hk',Int.toNat_natCast,if_pos hp]
   have hs:s.begin_ t kind key=s:=by simp only[HS.begin_,he];rfl
   rw[he,hs]
   have hkb:(decide (0≤(t:Int)) && decide ((t:Int)<8))=true:=by simp;omega
   have hpb:s.pend t=true:=by simp only[HS.pend,hkb,Int.toNat_natCast];simpa using hp
   have HK:=Lib.hid hkb
   have HP:=Lib.hid hpb
   have hb2:Below w.heap.size w (w.alloc (.cells #[.int .i64 kind,.int .i64 key] 46)):=(Below.refl _ _).alloc (Nat.le_refl _) _
   clear hkb hpb he hs hk' hk
   go_enter Tryz.func31,Tryz.ntmps31
   go_wp2_with (first
    | (go_at_call 50;refine(dQ _ _).mono ?_;rw[HK.out];rintro e w1 ⟨rfl,rfl⟩)
    | (go_at_call 51;refine(fZ b s B _ _ (h.alloc _)).mono ?_;rw[HP.out];rintro e w1 ⟨rfl,rfl⟩))
   go_ret
   exact⟨rfl,h.step hb2,(Kp.refl _ _ _).step hBw hb2⟩
  ·have he:s.qg t=0:=by simp only[HS.qg,if_neg hk',Int.toNat_natCast,if_neg hp]
   have hs:s.begin_ t kind key=s.zU t kind key:=by simp only[HS.begin_,he,Int.toNat_natCast];rfl
   rw[he,hs]
   exact qV b s B t kind key w h hBw ht hp hsz
 ·have hk':t<0∨8≤t:=by omega
  have he:s.qg t=2:=by simp only[HS.qg,if_pos hk']
  have hs:s.begin_ t kind key=s:=by simp only[HS.begin_,he];rfl
  rw[he,hs]
  have hkb:(decide (0≤t) && decide (t<8))=false:=by simp;omega
  have HK:=Lib.hid hkb
  have hb2:Below w.heap.size w (w.alloc (.cells #[.int .i64 kind,.int .i64 key] 46)):=(Below.refl _ _).alloc (Nat.le_refl _) _
  clear hkb he hs hk' hk
  go_enter Tryz.func31,Tryz.ntmps31
  go_wp2_with (go_at_call 50;refine(dQ _ _).mono ?_;rw[HK.out];rintro e w1 ⟨rfl,rfl⟩)
  go_ret
  exact⟨rfl,h.step hb2,(Kp.refl _ _ _).step hBw hb2⟩
def nW (b:Nat) (v:Value) (q:Nat) (cs:Array Value) (w:World):Prop:=w.cell? ⟨b,0,none⟩=some v∧∀ i,w.cell? ⟨q,i,none⟩=cs[i]?
theorem u7 (b:Nat) (s:HS) (B:Nat) (t k:Nat) (code:Int) (ok:Bool) (val:Int) (w:World) (h:HAt w B b s) (hBw:B≤w.heap.size) (ht:t<8) (hno:s.now t=((k+1:Nat):Int)) (hsz:s.evs.length≤1000):
  Calls Tryz.prog 34 #[.pointer (some ⟨b,0,none⟩),.int .i64 t,.agg #[.int .i64 code,.bool ok,.int .i64 val]] w fun e w'=>
   e= .returned (.int .i64 0)∧HAt w' B b (s.xE t code ok val)∧Kp B [100,51,109] w w':=by
 obtain⟨iE,KC,zE,sE,bE⟩:=info_parts lg
 obtain⟨v1,v2,cs,hr⟩:=h.at_
 have hwf:=h.wf
 have hbase:=h.base
 have hle:=hwf.le
 have hbl:=hr.lt
 have hkl:k<s.calls.length:=by have:=hwf.hi t;rw[hno] at this;omega
 have hkb:(decide (0≤(t:Int)) && decide ((t:Int)<8))=true:=by simp;omega
 have hp:s.pend t=true:=by simp only[HS.pend,hkb,Int.toNat_natCast,hno];simp
 have HK:=Lib.hid hkb
 have HP:=Lib.hid hp
 have HN:=Lib.hid hno
 clear hkb hp hno
 go_enter Tryz.func34,Tryz.ntmps34
 go_wp2_with (first
  | (go_at_call 50;refine(dQ _ _).mono ?_;rw[HK.out];rintro e w1 ⟨rfl,rfl⟩)
  | (go_at_call 51;refine(fZ b s B _ _ (h.alloc _)).mono ?_;rw[HP.out];rintro e w1 ⟨rfl,rfl⟩))
 obtain⟨A1,m1,rfl,-⟩:=bF hr.o1
 obtain⟨g,m2,rfl⟩:∃ g cap,v2= .slice (some ⟨g,0,none⟩) s.calls.length cap:=by
  obtain⟨A2,m2,h2,_,h3,h4⟩:=bF hr.o2
  cases A2 with
  | none=>have:=h3 rfl;omega
  | some a=>rw[h4 a rfl] at h2;exact⟨_,_,h2⟩
 have hr0:=hr.alloc (.cells #[.int .i64 code,.bool ok,.int .i64 val] 49)
 have hq0:=a8.new w 49 #[.int .i64 code,.bool ok,.int .i64 val]
 have k0:Kp B [100,51,109] w (w.alloc (.cells #[.int .i64 code,.bool ok,.int .i64 val] 49)):=(Kp.refl _ _ _).alloc hBw _
 clear hr h
 generalize(w.alloc (.cells #[.int .i64 code,.bool ok,.int .i64 val] 49))=W at *
 have L3:=hr0.lt
 have f1:=Later.cell (B:=W.heap.size) hr0.f1 hr0.lt
 have f2:=Later.cell (B:=W.heap.size) (hr0.fn ht) hr0.lt
 rw[HN.out] at f2
 have hi0:(0:Int)≤(t:Int):=Int.natCast_nonneg _
 have hi1:(t:Int)<8:=by omega
 refine nu W.heap.size (by kernel_rfl) (by kernel_rfl) ?_
 repeat(go_big_quiet_step (fail))
 refine wpQuiet_nil ?_
 intro W1 hq
 obtain⟨q,hq⟩:=hq
 have hb1:Below W.heap.size W W1:=by rw[hq];exact q.below
 clear hq q f1 f2
 have hr1:=hr0.step hb1
 have hq1:=hq0.step hb1
 have k1:=k0.step (by omega) hb1
 clear hr0 hq0 k0 hb1 L3
 have hgb:b≠g:=by
  obtain⟨_,cs',h'⟩:=bH hr1.o2 g rfl
  exact a8.q8 hr1.blk h' (by decide)
 have hgq:w.heap.size≠g:=by
  obtain⟨_,cs',h'⟩:=bH hr1.o2 g rfl
  exact a8.q8 hq1 h' (by decide)
 have hgB:B≤g∧∃ cs',a8 W1 g 109 cs':=bH hr1.o2 g rfl
 have hS:(nW b (.slice A1 s.evs.length m1) w.heap.size #[.int .i64 code,.bool ok,.int .i64 val]) W1.drew:=⟨hr1.f0,hq1.cells⟩
 have hne:=Such.q8 hS
 have f1:∀ q:Such (nW b (.slice A1 s.evs.length m1) w.heap.size #[.int .i64 code,.bool ok,.int .i64 val]),q.val.cell? ⟨b,0,none⟩=some (.slice A1 s.evs.length m1):=fun q=>q.ok.1
 have f2:∀ (q:Such (nW b (.slice A1 s.evs.length m1) w.heap.size #[.int .i64 code,.bool ok,.int .i64 val])) (i:Nat),q.val.cell? ⟨w.heap.size,i,none⟩=(#[.int .i64 code,.bool ok,.int .i64 val]:Array Value)[i]? :=fun q=>q.ok.2
 go_wp2_with fail
 refine cZ (fun w'=>∃ q:Such (nW b (.slice A1 s.evs.length m1) w.heap.size #[.int .i64 code,.bool ok,.int .i64 val]),w'=q.val) 12 [0,1,2,3,4,5,6,7,8,9,10] [11,12,13,14] (by kernel_rfl) (by kernel_rfl) (Such.bI hS) ?_
 simp only[au,List.map_cons,List.map_nil,List.getD_cons_zero,List.getD_cons_succ]
 repeat(go_big_quiet_step (fail))
 refine wpQuiet_nil ?_
 refine ay rfl (fun K hK=> ?_)
 obtain⟨c,hc⟩:∃ c,s.calls[k]? =some c:=⟨_,List.getElem?_eq_getElem hkl⟩
 have hcell:∀ j,j<9→W1.cell? ⟨g,k*9+j,none⟩=(HC.cells c)[j]? :=fun j hj=>by
  have h1:=hr1.o2.cellAt (k*9+j) (by omega)
  rw[h1,fS HC.cells 9 HC.db _ _ _ _ hc hj]
 have c1:=hcell 1 (by omega)
 have c6:=hcell 6 (by omega)
 have c7:=hcell 7 (by omega)
 have c8:=hcell 8 (by omega)
 simp only[HC.cells,List.getElem?_cons_succ,List.getElem?_cons_zero] at c1 c6 c7 c8
 have hfz:∀ j,W1.frozen? ⟨g,j,none⟩=false:=by
  obtain⟨_,cs',h'⟩:=hgB
  exact h'.frozen
 go_simp
 refine hK _ _ (Such.bI ⟨?_,fun i=> ?_⟩) ?_
 ·exact(World.cell?_setCell_other _ _ _ _ (by simp)).trans hr1.f0
 ·exact(World.cell?_setCell_other _ _ _ _ (by simp)).trans (hq1.cell i)
 clear hK K
 refine ae _ _ _ (by kernel_rfl) ?_
 simp only[au,List.map_cons,List.map_nil,List.getD_cons_zero,List.getD_cons_succ]
 clear f1 f2 hne hS hcell
 go_wp2_with fail
 obtain⟨cs',hgb'⟩:=hgB.2
 have hr2:=(hr1.CH (by decide) (by decide) hkl s.evs.length code ok val).drew
 have k2:=((((k1.setB hgb' hgB.1 (by decide) (k*9+1) (.int .i64 s.evs.length)).setB (hgb'.ao _ _) hgB.1 (by decide) (k*9+6) (.int .i64 code)).setB ((hgb'.ao _ _).ao _ _) hgB.1 (by decide) (k*9+6+1) (.bool ok)).setB (((hgb'.ao _ _).ao _ _).ao _ _) hgB.1 (by decide) (k*9+6+2) (.int .i64 val)).drew
 have hq2:=((((hq1.far (p:=⟨g,k*9+1,none⟩) hgq (.int .i64 s.evs.length)).far (p:=⟨g,k*9+6,none⟩) hgq (.int .i64 code)).far (p:=⟨g,k*9+6+1,none⟩) hgq (.bool ok)).far (p:=⟨g,k*9+6+2,none⟩) hgq (.int .i64 val)).drew
 clear c1 c6 c7 c8 hfz hr1 hq1 k1 hgb' cs' hc
 refine NoPanic.normal ?_
 generalize(World.drew ((((W1.setCell ⟨g,k*9+1,none⟩ (.int .i64 s.evs.length)).setCell ⟨g,k*9+6,none⟩ (.int .i64 code)).setCell ⟨g,k*9+6+1,none⟩ (.bool ok)).setCell ⟨g,k*9+6+2,none⟩ (.int .i64 val)))=W2 at *
 clear hgB hgb hgq
 go_wp2_with fail
 have hW2:=hr2.lt
 have f0:=Later.cell (B:=W2.heap.size) hr2.f0 hr2.lt
 have f2:=Later.cells hq2 hq2.lt
 refine cZ (fun w'=>∃ q:Later W2.heap.size W2,w'=q.val) 9 [0,1,2,3,4,5,6,7] [8,9,10,11,12] (by kernel_rfl) (by kernel_rfl) (Later.bI (Below.refl _ _).drew) ?_
 simp only[au,List.map_cons,List.map_nil,List.getD_cons_zero,List.getD_cons_succ]
 repeat(go_big_quiet_step (fail))
 refine wpQuiet_nil ?_
 refine ay rfl (fun K hK=> ?_)
 go_simp
 refine hK _ _ (Later.bI ((Below.refl _ _).alloc (Nat.le_refl _) _).drew) ?_
 clear hK K
 refine ae _ _ _ (by kernel_rfl) ?_
 simp only[au,List.map_cons,List.map_nil,List.getD_cons_zero,List.getD_cons_succ]
 refine wpList_append_lies _ rfl _ _ _ rfl B 51 iE _ 7 56 Tryz.underlying41 KC zE sE bE rfl (by omega) (.slice A1 s.evs.length m1) s.evs.length (s.evs.flatMap Ev.cells) rfl ((hr2.o1.alloc _).drew) ⟨W2.heap.size,0,none⟩ 1 1 (Ev.cells (GF t code ok val)) rfl rfl (World.news_of_block (heap_alloc_new W2 _)) (Ev.cells_one _) (by omega) (by unfold maxLen;omega) (by omega) (by simp;omega) (W2.heap.size+1) (by simp) ?_
 intro g2 cap2 w3 hown1 hgrow hat hlt
 have fb:=a8.grown (a8.drew (hr2.blk.alloc (.cells #[.int .i64 t,.bool true,.int .i64 0,.int .i64 0,.int .i64 code,.bool ok,.int .i64 val] 51))) hgrow (own_ne hr2.o1 hr2.blk (by decide))
 have fz:=fb.frozen 0
 have fc:=(fb.cell 0).trans hr2.c0
 have k3:Kp B [100,51,109] w w3:=((k2.alloc (by omega) _).drew).own ((hr2.o1.alloc _).drew) (Nat.le_refl _) (by simp;omega) (by decide) hgrow
 have hr3:=((hr2.alloc (.cells #[.int .i64 t,.bool true,.int .i64 0,.int .i64 0,.int .i64 code,.bool ok,.int .i64 val] 51)).drew).zW (by decide) (by decide) (by decide) (zX:=s.evs++[GF t code ok val]) (n':=s.evs.length+1) (by simp) (by simpa using hown1) hgrow
 have k4:=k3.setB fb hbase (by decide) 0 (.slice (some ⟨g2,0,none⟩) (s.evs.length+1) cap2)
 clear f0 f2 hown1 hgrow hat hr2 hq2 k2 k3 fb
 go_wp2_with fail
 refine NoPanic.normal ?_
 generalize(w3.setCell ⟨b,0,none⟩ (.slice (some ⟨g2,0,none⟩) (s.evs.length+1) cap2))=W3 at *
 clear fz fc hlt
 have fz:=hr3.blk.frozen (2+t)
 have fc:=hr3.fn ht
 have hr4:=hr3.zY (by decide) (by decide) ht 0
 have k5:=k4.setB hr3.blk hbase (by decide) (2+t) (.int .i64 0)
 clear hr3 k4
 go_wp2_with fail
 go_ret
 exact⟨rfl,⟨HS.EV hwf _ _ _ _,hbase,_,_,_,by simpa only [HS.xE,HN.out,show ((k+1:Nat):Int) - 1=(k:Int) from by omega,Int.toNat_natCast] using hr4⟩,k5⟩
theorem u9 (b:Nat) (s:HS) (B:Nat) (t code:Int) (ok:Bool) (val:Int) (w:World) (h:HAt w B b s) (hBw:B≤w.heap.size) (hsz:s.evs.length≤1000):
  Calls Tryz.prog 34 #[.pointer (some ⟨b,0,none⟩),.int .i64 t,.agg #[.int .i64 code,.bool ok,.int .i64 val]] w fun e w'=>
   e= .returned (.int .i64 (s.ny t))∧HAt w' B b (s.end_ t code ok val)∧Kp B [100,51,109] w w':=by
 by_cases hk:0≤t∧t<8
 ·obtain⟨t,rfl⟩:=Int.eq_ofNat_of_zero_le hk.1
  have ht:t<8:=by omega
  have hk':¬ ((t:Int)<0∨8≤(t:Int)):=by omega
  by_cases hp:0<s.now t
  ·have he:s.ny t=0:=by simp only[HS.ny,if_neg hk',Int.toNat_natCast,if_pos hp]
   have hs:s.end_ t code ok val=s.xE t code ok val:=by simp only[HS.end_,he,Int.toNat_natCast];rfl
   rw[he,hs]
   exact u7 b s B t (s.now t - 1).toNat code ok val w h hBw ht (by omega) hsz
  ·have he:s.ny t=5:=by simp only[HS.ny,if_neg hk',Int.toNat_natCast,if_neg hp]
   have hs:s.end_ t code ok val=s:=by simp only[HS.end_,he];rfl
   rw[he,hs]
   have hkb:(decide (0≤(t:Int)) && decide ((t:Int)<8))=true:=by simp;omega
   have hpb:s.pend t=false:=by simp only[HS.pend,hkb,Int.toNat_natCast];simpa using hp
   have HK:=Lib.hid hkb
   have HP:=Lib.hid hpb
   have hb2:Below w.heap.size w (w.alloc (.cells #[.int .i64 code,.bool ok,.int .i64 val] 49)):=(Below.refl _ _).alloc (Nat.le_refl _) _
   clear hkb hpb he hs hk' hk
   go_enter Tryz.func34,Tryz.ntmps34
   go_wp2_with (first
    | (go_at_call 50;refine(dQ _ _).mono ?_;rw[HK.out];rintro e w1 ⟨rfl,rfl⟩)
    | (go_at_call 51;refine(fZ b s B _ _ (h.alloc _)).mono ?_;rw[HP.out];rintro e w1 ⟨rfl,rfl⟩))
   go_ret
   exact⟨rfl,h.step hb2,(Kp.refl _ _ _).step hBw hb2⟩
 ·have hk':t<0∨8≤t:=by omega
  have he:s.ny t=2:=by simp only[HS.ny,if_pos hk']
  have hs:s.end_ t code ok val=s:=by simp only[HS.end_,he];rfl
  rw[he,hs]
  have hkb:(decide (0≤t) && decide (t<8))=false:=by simp;omega
  have HK:=Lib.hid hkb
  have hb2:Below w.heap.size w (w.alloc (.cells #[.int .i64 code,.bool ok,.int .i64 val] 49)):=(Below.refl _ _).alloc (Nat.le_refl _) _
  clear hkb he hs hk' hk
  go_enter Tryz.func34,Tryz.ntmps34
  go_wp2_with (go_at_call 50;refine(dQ _ _).mono ?_;rw[HK.out];rintro e w1 ⟨rfl,rfl⟩)
  go_ret
  exact⟨rfl,h.step hb2,(Kp.refl _ _ _).step hBw hb2⟩
theorem va {α:Type} (f:α→List Value) (hf:∀ x,∀ u∈f x,u.oneCell'=true) (l:List α):∀ u∈l.flatMap f,u.oneCell'=true:=by
 intro u hu
 obtain⟨x,_,hx⟩:=List.mem_flatMap.1 hu
 exact hf x u hx
theorem xk (A:Option Addr) (n c B:Nat) (xs:List Value) (w:World) (hr:Sl w B 9 A n xs) (hB:B≤w.heap.size) (h1:∀ u∈xs,u.oneCell'=true) (hn:n≤1000) (hnil:A=none→n=0∧c=0):
  Calls Tryz.prog 54 #[.slice A n c] w fun e w'=>∃ v,e= .returned v∧w'.ownsRow w.heap.size 109 9 v n xs∧Below w.heap.size w w':=by
 obtain⟨i0,hi,hz0,hz1,hz2⟩:=info_parts rP
 cases A with
 | none=>
  obtain⟨rfl,rfl⟩:=hnil rfl
  have hx:xs=[]:=List.eq_nil_of_length_eq_zero (by simpa using hr.len)
  subst hx
  have hq:=fun w:World=>Lib.run_eql_slice_nil (P:=Tryz.prog) w 97 109 none 0 0 0 0 Tryz.underlying97
  go_enter Tryz.func54,Tryz.ntmps54
  go_wp2
  go_ret
  exact⟨_,rfl,World.ownsRow_nil _ _ _ _,Below.refl _ _⟩
 | some a=>
  have hq:=fun w:World=>Lib.run_eql_slice_nil (P:=Tryz.prog) w 97 109 (some a) n c 0 0 Tryz.underlying97
  have ho:=n5 w 109 9 (Nat.le_refl _) rfl
  have hs:Sl (w.alloc (.cells #[] 109)) B 9 (some a) n xs:=hr.step hB ((Below.refl _ _).alloc (Nat.le_refl _) _)
  go_enter Tryz.func54,Tryz.ntmps54
  go_wp2_with (at_builtin;refine dU _ rfl _ _ _ rfl w.heap.size 109 i0 _ 9 72 Tryz.underlying97 hi hz0 hz1 hz2 rfl (by omega) (.slice (some ⟨w.heap.size,0,none⟩) 0 0) 0 [] rfl ho B (some a) n c xs rfl hs h1 (by unfold maxLen;omega) (by omega) (by simp) ?_;intro v1 w1 hown1 hg1 CS)
  go_ret
  exact⟨_,rfl,by simpa using hown1,((Below.refl _ _).alloc (Nat.le_refl _) _).grown hg1 (by simp) (by simp[Value.ownBlock])⟩
theorem vd (A:Option Addr) (n c B:Nat) (xs:List Value) (w:World) (hr:Sl w B 7 A n xs) (hB:B≤w.heap.size) (h1:∀ u∈xs,u.oneCell'=true) (hn:n≤1000) (hnil:A=none→n=0∧c=0):
  Calls Tryz.prog 36 #[.slice A n c] w fun e w'=>∃ v,e= .returned v∧w'.ownsRow w.heap.size 51 7 v n xs∧Below w.heap.size w w':=by
 obtain⟨i0,hi,hz0,hz1,hz2⟩:=info_parts lg
 cases A with
 | none=>
  obtain⟨rfl,rfl⟩:=hnil rfl
  have hx:xs=[]:=List.eq_nil_of_length_eq_zero (by simpa using hr.len)
  subst hx
  have hq:=fun w:World=>Lib.run_eql_slice_nil (P:=Tryz.prog) w 41 51 none 0 0 0 0 Tryz.underlying41
  go_enter Tryz.func36,Tryz.ntmps36
  go_wp2
  go_ret
  exact⟨_,rfl,World.ownsRow_nil _ _ _ _,Below.refl _ _⟩
 | some a=>
  have hq:=fun w:World=>Lib.run_eql_slice_nil (P:=Tryz.prog) w 41 51 (some a) n c 0 0 Tryz.underlying41
  have ho:=n5 w 51 7 (Nat.le_refl _) rfl
  have hs:Sl (w.alloc (.cells #[] 51)) B 7 (some a) n xs:=hr.step hB ((Below.refl _ _).alloc (Nat.le_refl _) _)
  go_enter Tryz.func36,Tryz.ntmps36
  go_wp2_with (at_builtin;refine dU _ rfl _ _ _ rfl w.heap.size 51 i0 _ 7 56 Tryz.underlying41 hi hz0 hz1 hz2 rfl (by omega) (.slice (some ⟨w.heap.size,0,none⟩) 0 0) 0 [] rfl ho B (some a) n c xs rfl hs h1 (by unfold maxLen;omega) (by omega) (by simp) ?_;intro v1 w1 hown1 hg1 CS)
  go_ret
  exact⟨_,rfl,by simpa using hown1,((Below.refl _ _).alloc (Nat.le_refl _) _).grown hg1 (by simp) (by simp[Value.ownBlock])⟩
theorem nh (b:Nat) (s:HS) (B:Nat) (w:World) (h:HAt w B b s) (hsz:s.evs.length≤1000):
  Calls Tryz.prog 16 #[.pointer (some ⟨b,0,none⟩)] w fun e w'=>∃ v,e= .returned v∧w'.ownsRow w.heap.size 51 7 v s.evs.length (s.evs.flatMap Ev.cells)∧Below w.heap.size w w':=by
 obtain⟨v1,v2,cs,hr⟩:=h.at_
 have hle:=h.wf.le
 obtain⟨A,c,rfl,-,hnil,-⟩:=bF hr.o1
 have hcell:=hr.f0
 have hsl:=Sl.cB hr.o1
 have h1:=va Ev.cells Ev.cells_one s.evs
 have HN:=Lib.hid hnil
 clear hr h hnil
 go_enter Tryz.func16,Tryz.ntmps16
 go_wp2_with (go_at_call 36;refine(vd _ _ _ _ _ _ hsl (Nat.le_refl _) h1 (by omega) HN.out).mono ?_;rintro e w1 ⟨v,rfl,ho,hb⟩)
 go_ret
 exact⟨_,rfl,ho,hb⟩
theorem pK (b:Nat) (s:HS) (B:Nat) (w:World) (h:HAt w B b s) (hsz:s.evs.length≤1000):
  Calls Tryz.prog 40 #[.pointer (some ⟨b,0,none⟩)] w fun e w'=>∃ v,e= .returned v∧w'.ownsRow w.heap.size 109 9 v s.calls.length (s.calls.flatMap HC.cells)∧Below w.heap.size w w':=by
 obtain⟨v1,v2,cs,hr⟩:=h.at_
 have hle:=h.wf.le
 obtain⟨A,c,rfl,-,hnil,-⟩:=bF hr.o2
 have hcell:=hr.f1
 have hsl:=Sl.cB hr.o2
 have h1:=va HC.cells HC.cells_one s.calls
 have HN:=Lib.hid hnil
 clear hr h hnil
 go_enter Tryz.func40,Tryz.ntmps40
 go_wp2_with (go_at_call 54;refine(xk _ _ _ _ _ _ hsl (Nat.le_refl _) h1 (by omega) HN.out).mono ?_;rintro e w1 ⟨v,rfl,ho,hb⟩)
 go_ret
 exact⟨_,rfl,ho,hb⟩
def HS.step (s:HS) (e:Ev):HS:=if e.ends then s.end_ e.th e.code e.ok e.val else s.begin_ e.th e.kind e.key
theorem HS.l1 (s:HS) (e:Ev):(s.step e).evs.length≤s.evs.length+1:=by
 unfold HS.step HS.end_ HS.begin_
 split<;>split<;>simp[HS.xE,HS.zU]
theorem zg (b:Nat) (s:HS) (BH:Nat) (w:World) (h:HAt w BH b s) (hn:s.evs.length≤1000):
  Calls Tryz.prog 35 #[.pointer (some ⟨b,0,none⟩)] w fun r w'=>∃ b',r= .returned (.pointer (some ⟨b',0,none⟩))∧HAt w' w.heap.size b' s∧Below w.heap.size w w':=by
 have hwf:=h.wf
 obtain⟨v1,v2,cs,hr⟩:=h.at_
 have hbl:=hr.lt
 have q0:=Later.cell (B:=w.heap.size) (w:=w) (hr.fn (t:=0) (by omega)) hbl
 have q1:=Later.cell (B:=w.heap.size) (w:=w) (hr.fn (t:=1) (by omega)) hbl
 have q2:=Later.cell (B:=w.heap.size) (w:=w) (hr.fn (t:=2) (by omega)) hbl
 have q3:=Later.cell (B:=w.heap.size) (w:=w) (hr.fn (t:=3) (by omega)) hbl
 have q4:=Later.cell (B:=w.heap.size) (w:=w) (hr.fn (t:=4) (by omega)) hbl
 have q5:=Later.cell (B:=w.heap.size) (w:=w) (hr.fn (t:=5) (by omega)) hbl
 have q6:=Later.cell (B:=w.heap.size) (w:=w) (hr.fn (t:=6) (by omega)) hbl
 have q7:=Later.cell (B:=w.heap.size) (w:=w) (hr.fn (t:=7) (by omega)) hbl
 clear hr
 go_enter Tryz.func35,Tryz.ntmps35
 go_upto_region 1 with (fail)
 refine cZ (fun w'=>∃ q:Later w.heap.size w,w'=q.val) 8 [0,2,4,5,6,7] [1,3,8,9,10] (by kernel_rfl) (by kernel_rfl) (Later.bI (Below.refl _ _).drew) ?_
 simp only[au,List.map_cons,List.map_nil,List.getD_cons_zero,List.getD_cons_succ]
 repeat(go_big_quiet_step (fail))
 refine wpQuiet_nil ?_
 clear q0 q1 q2 q3 q4 q5 q6 q7
 refine ay rfl (fun K hK=> ?_)
 go_simp
 have h0:HAt w.drew BH b s:=h.drew
 have hb0:Below w.heap.size w w.drew:=(Below.refl _ _).drew
 have hs0:w.drew.heap.size=w.heap.size:=rfl
 generalize w.drew=W0 at *
 refine(nh b s BH W0 h0 hn).mono ?_
 rintro e w1 ⟨u1,rfl,ho1,hb1⟩
 rw[hs0] at ho1 hb1
 obtain⟨X1,m1,rfl,-,-,-⟩:=bF ho1
 refine hK _ _ (Later.bI (hb0.trans hb1)) ?_
 clear hK K
 refine ay rfl (fun K hK=> ?_)
 go_simp
 have h1:=h0.step (hs0 ▸ hb1)
 have hs1:=(hb0.trans hb1).size
 refine(pK b s BH w1 h1 hn).mono ?_
 rintro e w2 ⟨u2,rfl,ho2,hb2⟩
 obtain⟨X2,m2,rfl,-,-,-⟩:=bF ho2
 refine hK _ _ (Later.bI ((hb0.trans hb1).trans (hb2.mono hs1))) ?_
 clear hK K
 have hs2:=hb2.size
 have KD:=cW ho1 hb2
 refine ae _ _ _ (by kernel_rfl) ?_
 simp only[au,List.map_cons,List.map_nil,List.getD_cons_zero,List.getD_cons_succ]
 go_wp2_with fail
 refine NoPanic.normal ?_
 go_wp2_with fail
 go_ret
 have hB:=(hb0.trans hb1).trans (hb2.mono hs1)
 refine⟨w2.heap.size,rfl,⟨hwf,by omega,_,_,_,a8.new _ _ _,rfl,rfl,rfl,?_,KD.alloc _,(eh ho2 hs1).alloc _⟩,hB.alloc (by omega) _⟩
 intro t ht
 match t,ht with
 | 0,_=>rfl
 | 1,_=>rfl
 | 2,_=>rfl
 | 3,_=>rfl
 | 4,_=>rfl
 | 5,_=>rfl
 | 6,_=>rfl
 | 7,_=>rfl
end Go.Proofs.YtbcnnhlpilmmbaaGreat
