/- Texts that are wanted for PTopFull.
   Conditions: none. -/
import Derived.Maps.OwnOps
import Derived.Maps.OwnSet
import Derived.Maps.Views
import Derived.Test.YtbcnnhlpilmmbaaGreatJPTopFull05
set_option maxRecDepth 100000
set_option maxHeartbeats 6400000
namespace Go.Proofs.YtbcnnhlpilmmbaaGreat
open Go Go.RowKit
abbrev Mm:Type:=Nat→Int
structure cV where
 spare:Int
 ret:List Int
def cV.retire (s:cV) (l:List Int):cV:={ s with ret:=s.ret++l }
structure iH where
 nodes:List Int
 seen:List Int
 at_:Int
 kept:List Int
 freed:List Int
 give:List Int
def iH.new (l:List Int):iH:=⟨l,[],0,[],[],[]⟩
def iH.part (s:iH):iH:={ s with kept:=s.nodes.filter (fun x=>s.seen.contains x),freed:=s.nodes.filter (fun x=> !s.seen.contains x),give:=s.nodes.filter (fun x=> !s.seen.contains x) }
def iH.look (s:iH) (x:Int):iH:={ s with seen:=wrap64 x::s.seen,at_:=s.at_+1 }
def cI (M:ML) (m:Mm) (s:iH):Bool×Mm×iH:=
 if 2*M.L.th≤s.at_ then ((ez M m s.give).1,(ez M m s.give).2.1,{ s with give:=(ez M m s.give).2.2 })
 else if s.at_+1=2*M.L.th then ((s.look (ld M m (M.L.slot 0 s.at_))).part.freed.isEmpty,m,(s.look (ld M m (M.L.slot 0 s.at_))).part)
 else (false,m,s.look (ld M m (M.L.slot 0 s.at_)))
abbrev tY:Type:=Option iH
def bK (M:ML) (m:Mm) (t:cV) (x:tY):Bool×Mm×cV×tY:=
 let r:=cI M m (x.getD (.new t.ret))
 (r.1,r.2.1,if r.1 then { t with ret:=r.2.2.kept } else t,some r.2.2)
structure j5 where
 short:Bool
 alloc:Option gL
 scan:Option tY
 done:Bool
def j5.new:j5:=⟨false,none,none,false⟩
def iV (L:Ly) (me:Int):Int:=1+(me*L.nd).tdiv L.th
def hM (L:Ly) (from_:Int):gL:=⟨0,if L.node from_ then from_ else 1,L.nd,0,false⟩
def km (M:ML) (m:Mm) (t:cV) (e:j5) (a:gL):Bool×Mm×cV×j5:=
 let r:=cp M m a
 if r.1=false then (false,r.2.1,t,{ e with alloc:=some r.2.2 })
 else if r.2.2.got≠0 then (true,r.2.1,{ t with spare:=r.2.2.got },{ e with alloc:=some r.2.2 })
 else (e.done || t.ret.isEmpty,r.2.1,{ t with spare:=0 },{ e with alloc:=some r.2.2,short:=e.done || t.ret.isEmpty,scan:=some none })
def aF (M:ML) (me:Int) (m:Mm) (t:cV) (e:j5):Bool×Mm×cV×j5:=
 match e.scan with
 | some x=>
  let r:=bK M m t x
  if r.1=false then (false,r.2.1,r.2.2.1,{ e with scan:=some r.2.2.2 })
  else (((r.2.2.2.getD (.new [])).freed).isEmpty,r.2.1,r.2.2.1,⟨((r.2.2.2.getD (.new [])).freed).isEmpty,none,none,true⟩)
 | none=>
  match e.alloc with
  | none=>if t.spare≠0 then (true,m,t,e) else km M m t e (hM M.L (iV M.L me))
  | some a=>km M m t e a
structure nB where
 key:Int
 next:Int
 found:Int
 loaded:Bool
def nB.new (key next:Int):nB:=⟨key,next,0,false⟩
def nB.word (p:nB):Int:=eU ((⟨p.key,0,false,0,(aE p.found).ver⟩:Wd).link p.next)
def dh (M:ML) (m:Mm) (t:cV) (p:nB):Bool×Mm×nB:=
 if p.loaded=false then (false,m,{ p with found:=ld M m t.spare,loaded:=true })
 else (true,st M m t.spare p.word,p)
structure Pos where
 pred:Int
 pw:Int
 curr:Int
 cw:Int
structure aC where
 pos:Pos
 tries:Int
 aQ:List Int
 ab:Bool
 me:Int
 from_:Int
 key:Int
 limit:Int
 at_:Int
 moved:Int
 cl:gR
def gR.new (addr:Int):gR:=⟨addr,0,0,0⟩
def aC.new (L:Ly) (me head key limit:Int):aC:=⟨⟨L.head head,0,0,0⟩,0,[],false,me,L.head head,key,limit,0,0,.new 0⟩
def aC.anew (f:aC):aC:={ f with pos:={ f.pos with pred:=f.from_ },moved:=0,at_:=0 }
def aC.over (f:aC):Bool:=decide (f.limit<f.tries+1)
def aC.aU (f:aC):aC:={ f with tries:=f.tries+1,ab:=f.over,pos:=if f.over then ⟨0,0,0,0⟩ else f.pos }
def aC.take (f:aC) (x:Int):Bool×aC:=
 if (aE x).mark then (false,f.anew) else (decide ((aE x).next=0),{ f with pos:=⟨f.pos.pred,x,(aE x).next,0⟩,at_:=1 })
def aC.cN (f:aC) (x:Int):Bool×aC:=if f.over then (true,f.aU) else f.aU.take x
def aC.move (L:Ly) (f:aC):Bool×Bool×aC:=
 if f.moved+1≤L.nd then (false,true,{ f with moved:=f.moved+1 })
 else if f.over then (true,false,({ f with moved:=f.moved+1 }:aC).aU)
 else (false,false,({ f with moved:=f.moved+1 }:aC).aU.anew)
def aC.look (f:aC) (x:Int):Bool×aC:=
 let g:aC:={ f with pos:={ f.pos with cw:=x } }
 if (aE x).mark=false then (if f.key≤(aE x).key then (true,g) else (false,{ g with at_:=6 }))
 else if (aE x).claim≠0 then (false,{ g with at_:=4,cl:= .new f.pos.curr })
 else if (aE f.pos.pw).claim≠0 then (false,{ g with at_:=4,cl:= .new f.pos.pred })
 else (false,{ g with at_:=5 })
def aC.cut (f:aC):Int:=eU ((aE f.pos.pw).link (aE f.pos.cw).next)
def ax (M:ML) (m:Mm) (f:aC):Bool×Mm×aC:=
 if f.at_=0 then
  let x:=ld M m f.pos.pred
  let r:=if (aE x).mark then f.cN x else f.take x
  (r.1,m,r.2)
 else if f.at_=1 then (false,st M m (M.L.slot f.me 1) f.pos.curr,{ f with at_:=2 })
 else if f.at_=2 then
  let x:=ld M m f.pos.pred
  if x≠f.pos.pw then ((f.cN x).1,m,(f.cN x).2) else (false,m,{ f with at_:=3 })
 else if f.at_=3 then ((f.look (ld M m f.pos.curr)).1,m,(f.look (ld M m f.pos.curr)).2)
 else if f.at_=4 then
  let r:=bz M m f.cl
  if r.1 then (f.over,r.2.1,({ f with cl:=r.2.2,at_:=0 }:aC).aU) else (false,r.2.1,{ f with cl:=r.2.2 })
 else if f.at_=5 then
  if bS M m f.pos.pred f.pos.pw then
   let m':=cas M m f.pos.pred f.pos.pw f.cut
   let r:=({ f with aQ:=f.aQ++[f.pos.curr] }:aC).move M.L
   if r.2.1 then ((r.2.2.take f.cut).1,m',(r.2.2.take f.cut).2) else (r.1,m',r.2.2)
  else (f.over,m,({ f with at_:=0 }:aC).aU)
 else
  let r:=({ f with pos:={ f.pos with pred:=f.pos.curr },at_:=0 }:aC).move M.L
  (r.1,st M m (M.L.slot f.me 0) f.pos.curr,r.2.2)
structure dw where
 now:Bool
 res:ku
 addr:Int
 old:Int
 next:Int
 mark:Bool
 pops:Int
def dw.zero:dw:=⟨false,⟨0,false,0⟩,0,0,0,false,0⟩
def told (ok:Bool):dw:=⟨true,⟨0,ok,0⟩,0,0,0,false,0⟩
def Pos.link (p:Pos) (next:Int):dw:=⟨false,⟨0,true,0⟩,p.pred,p.pw,next,(aE p.pw).mark,0⟩
def Pos.mark (p:Pos):dw:=⟨false,⟨0,true,0⟩,p.curr,p.cw,(aE p.cw).next,true,0⟩
def Pos.found (p:Pos) (t:bq):Bool:=decide (p.curr≠0) && decide ((aE p.cw).key=t.key)
def Pos.take (p:Pos) (t:bq):dw:=
 if p.curr=0 then told false
 else if t.pops then { p.link (aE p.cw).next with pops:=p.curr,res:=⟨0,true,(aE p.cw).key⟩ }
 else { p.mark with res:=⟨0,true,(aE p.cw).key⟩ }
def aw (t:bq) (p:Pos) (spare:Int):dw:=
 if t.kind=4∨(t.kind=1∧p.found t=false) then p.link spare
 else if t.kind=2∧p.found t=true then p.mark
 else if t.kind=5 then p.take t
 else told (decide (t.kind=3) && p.found t)
def dw.claimed (p:dw):Bool:= !p.now && decide ((aE p.old).claim≠0)
def dw.word (p:dw):Int:=if p.now then 0 else eU ((aE p.old).claimed 0 p.next p.mark).free
def dw.desc (p:dw) (aM:Int):Int:=if p.now then 0 else cL ⟨aM,p.addr,(aE p.old).ver,p.next,p.mark,2,p.res.val⟩
structure bL where
 popped:Int
 gave:Int
 u:Int
 task:bq
 aM:Int
 at_:Int
 found:Int
 word:Int
def bL.new (u:Int) (t:bq) (aM:Int):bL:=⟨0,0,u,t,aM,0,0,0⟩
def bL.load (x:bL) (v:Int):Bool×bL:=
 if (getD' v).aM≠x.aM then (true,{ x with found:=v })
 else if (getD' v).status=2 then (false,{ x with found:=v,at_:=1 })
 else if (getD' v).status=3 then (false,{ x with found:=v,at_:=5 })
 else if (getD' v).status=4 then (false,{ x with found:=v,at_:=8 })
 else (true,{ x with found:=v })
def bL.look (x:bL) (v without with_ other:Int):bL:=
 { x with word:=v,at_:=if (aE v).ver=(getD' x.found).ver∧(aE v).claim=0 then without else if (aE v).ver=(getD' x.found).ver∧(aE v).claim=x.u+1 then with_ else other }
def bu (M:ML) (m:Mm) (x:bL):Bool×Mm×bL:=
 let d:=getD' x.found
 let w:=aE x.word
 if x.at_=0 then ((x.load (ld M m (M.L.desc x.u))).1,m,(x.load (ld M m (M.L.desc x.u))).2)
 else if x.at_=1 then (false,m,x.look (ld M m d.addr) 2 3 4)
 else if x.at_=2 then (true,cas M m d.addr x.word (eU (w.claimed x.u d.next d.mark)),if bS M m d.addr x.word && x.task.pops then { x with popped:=w.next } else x)
 else if x.at_=3 then (true,cas M m (M.L.desc x.u) x.found (cL (d.with_ 3)),x)
 else if x.at_=4 then (true,cas M m (M.L.desc x.u) x.found (cL (d.with_ 4)),x)
 else if x.at_=5 then (false,m,x.look (ld M m d.addr) 7 6 7)
 else if x.at_=6 then (false,cas M m d.addr x.word (eU w.free),{ x with at_:=7 })
 else if x.at_=7 then (true,cas M m (M.L.desc x.u) x.found (cL (d.ended 0 true d.val)),x)
 else if x.at_=8 then (!bS M m (M.L.desc x.u) x.found || (!x.task.links || !M.L.node d.next),cas M m (M.L.desc x.u) x.found (cL d.cm),{ x with at_:=9 })
 else (true,add M m (M.L.life d.next) 1,{ x with gave:=d.next })
structure bj where
 res:ku
 failed:Bool
 tries:Int
 task:bq
 most:Int
 at_:Int
 plan:dw
 find:aC
 cl:gR
 aD:nB
def bj.kn (L:Ly) (me:Int) (f:bj):bj:={ f with at_:=0,find:= .new L me f.task.head f.task.lC (f.most - f.tries) }
def bj.new (L:Ly) (me:Int) (t:bq) (most:Int):bj:=bj.kn L me ⟨⟨0,false,0⟩,false,0,t,most,0,.zero,.new L 0 0 0 0,.new 0,.new 0 0⟩
def bj.over (f:bj) (n:Int):Bool:=decide (f.most<f.tries+n)
def bj.aU (f:bj) (n:Int):bj:={ f with tries:=f.tries+n,failed:=f.over n }
def bj.again (L:Ly) (me:Int) (f:bj):Bool×bj:=if f.over 1 then (true,f.aU 1) else (false,(f.aU 1).kn L me)
def bj.sought (t:cV) (f:bj):Bool×cV×bj:=
 let t':=t.retire f.find.aQ
 if f.over f.find.tries then (true,t',f.aU f.find.tries)
 else
  let p:=aw f.task f.find.pos t.spare
  let g:bj:={ f.aU f.find.tries with plan:=p }
  if p.now then (true,t',{ g with res:=p.res })
  else if p.claimed then (false,t',{ g with at_:=1,cl:= .new p.addr })
  else if f.task.links then (false,t',{ g with at_:=2,aD:= .new f.task.key f.find.pos.curr })
  else (false,t',{ g with at_:=3 })
def cV.did (t:cV) (k:bq) (p:dw):cV:=
 let t':cV:=if k.links then { t with spare:=0 } else t
 if p.pops≠0 then t'.retire [p.pops] else t'
def aJ (M:ML) (me:Int) (m:Mm) (t:cV) (f:bj):Bool×Mm×cV×bj:=
 if f.at_=0 then
  if f.task.links && decide (t.spare=0) then (true,m,t,{ f with failed:=true })
  else
   let r:=ax M m f.find
   let g:bj:={ f with find:=r.2.2 }
   if r.1 then ((g.sought t).1,r.2.1,(g.sought t).2.1,(g.sought t).2.2) else (false,r.2.1,t,g)
 else if f.at_=1 then
  let r:=bz M m f.cl
  let g:bj:={ f with cl:=r.2.2 }
  if r.1 then ((g.again M.L me).1,r.2.1,t,(g.again M.L me).2) else (false,r.2.1,t,g)
 else if f.at_=2 then
  let r:=dh M m t f.aD
  (false,r.2.1,t,{ f with aD:=r.2.2,at_:=if r.1 then 3 else 2 })
 else if bS M m f.plan.addr f.plan.old then (true,cas M m f.plan.addr f.plan.old f.plan.word,t.did f.task f.plan,{ f with res:=f.plan.res })
 else ((f.again M.L me).1,m,t,(f.again M.L me).2)
structure aK where
 u:Int
 no:Int
 rounds:Int
 limit:Int
 at_:Int
 found:Int
 task:bq
 plan:dw
 exec:bL
 a5:j5
 find:aC
 cl:gR
 aD:nB
def aK.new (L:Ly) (u no limit:Int):aK:=⟨u,no,0,limit,0,0,.zero,.zero,.new 0 .zero 0,.new,.new L 0 0 0 0,.new 0,.new 0 0⟩
def aK.search (L:Ly) (me:Int) (h:aK):aK:={ h with at_:=5,find:= .new L me h.task.head h.task.lC h.limit }
def aK.begin_ (L:Ly) (me:Int) (t:cV) (h:aK) (x:Int):Bool×aK:=
 if gC x=false then (true,{ h with task:= .zero })
 else
  let g:aK:={ h with task:=eA x }
  if (getD' h.found).status≠1 then (false,{ g with at_:=3,exec:= .new h.u (eA x) (getD' h.found).aM })
  else if (eA x).links && decide (t.spare=0) then (false,{ g with at_:=4,a5:= .new })
  else (false,g.search L me)
def dM:dw:=⟨true,⟨4,false,0⟩,0,0,0,false,0⟩
def aK.sought (t:cV) (h:aK):cV×aK:=
 let t':=t.retire h.find.aQ
 let p:=aw h.task h.find.pos t.spare
 let g:aK:={ h with plan:=p }
 if h.find.ab then (t',{ g with at_:=0 })
 else if p.now then (t',{ g with at_:=6 })
 else if p.claimed then (t',{ g with at_:=7,cl:= .new p.addr })
 else if h.task.links then (t',{ g with at_:=8,aD:= .new h.task.key h.find.pos.curr })
 else (t',{ g with at_:=9 })
def ah (M:ML) (me:Int) (m:Mm) (t:cV) (h:aK):Bool×Mm×cV×aK:=
 let d:=getD' h.found
 if h.at_=0 then (!(getD' (ld M m (M.L.desc h.u))).pend,m,t,{ h with found:=ld M m (M.L.desc h.u),rounds:=h.rounds+1,at_:=1 })
 else if h.at_=1 then (decide (ld M m (M.L.ticket h.u)≠h.no),m,t,{ h with at_:=2 })
 else if h.at_=2 then ((h.begin_ M.L me t (ld M m (M.L.task h.u))).1,m,t,(h.begin_ M.L me t (ld M m (M.L.task h.u))).2)
 else if h.at_=3 then
  let r:=bu M m h.exec
  (false,r.2.1,if r.1∧r.2.2.popped≠0 then t.retire [r.2.2.popped] else t,{ h with exec:=r.2.2,at_:=if r.1 then 0 else 3 })
 else if h.at_=4 then
  let r:=aF M me m t h.a5
  let g:aK:={ h with a5:=r.2.2.2 }
  (false,r.2.1,r.2.2.1,if r.1=false then g else if r.2.2.2.short then { g with at_:=6,plan:=dM } else g.search M.L me)
 else if h.at_=5 then
  let r:=ax M m h.find
  let g:aK:={ h with find:=r.2.2 }
  if r.1 then (false,r.2.1,(g.sought t).1,(g.sought t).2) else (false,r.2.1,t,g)
 else if h.at_=6 then (false,cas M m (M.L.desc h.u) h.found (cL (d.ended h.plan.res.code h.plan.res.ok h.plan.res.val)),t,{ h with at_:=0 })
 else if h.at_=7 then
  let r:=bz M m h.cl
  (false,r.2.1,t,{ h with cl:=r.2.2,at_:=if r.1 then 0 else 7 })
 else if h.at_=8 then
  let r:=dh M m t h.aD
  (false,r.2.1,t,{ h with aD:=r.2.2,at_:=if r.1 then 9 else 8 })
 else (false,cas M m (M.L.desc h.u) h.found (h.plan.desc d.aM),if bS M m (M.L.desc h.u) h.found && h.task.links then { t with spare:=0 } else t,{ h with at_:=0 })
structure kO where
 no:Int
 at_:Int
 bits:Int
 found:Int
def kO.new (t:bq):kO:=⟨0,0,t.num,0⟩
def aW (M:ML) (me:Int) (m:Mm) (a:kO):Bool×Mm×kO:=
 if a.at_=0 then (false,st M m (M.L.task me) a.bits,{ a with at_:=1 })
 else if a.at_=1 then (false,add M m M.L.counter 1,{ a with no:=(ld M m M.L.counter+1) % 18446744073709551616,at_:=2 })
 else if a.at_=2 then (false,st M m (M.L.ticket me) a.no,{ a with at_:=3 })
 else if a.at_=3 then (false,m,{ a with found:=ld M m (M.L.desc me),at_:=4 })
 else (true,st M m (M.L.desc me) (cL (getD' a.found).cm),{ a with at_:=5 })
structure oh where
 u:Int
 no:Int
 at_:Int
 ticket:Bool
def oh.new:oh:=⟨-1,0,0,false⟩
def ahead (n1 u1 n2 u2:Int):Bool:=decide (n1<n2∨(n1=n2∧u1<u2))
def cq (M:ML) (m:Mm) (h:oh):Bool×Mm×oh:=
 if h.ticket=false then
  if (getD' (ld M m (M.L.desc h.at_))).pend then (false,m,{ h with ticket:=true })
  else (decide (M.L.th≤h.at_+1),m,{ h with at_:=h.at_+1,ticket:=false })
 else
  let n:=ld M m (M.L.ticket h.at_)
  let better:=decide (h.u<0) || ahead n h.at_ h.no h.u
  (decide (M.L.th≤h.at_+1),m,⟨if better then h.at_ else h.u,if better then n else h.no,h.at_+1,false⟩)
structure aH where
 res:ku
 slow:Bool
 task:bq
 limit:Int
 at_:Int
 head:oh
 help:aK
 a5:j5
 fast:bj
 ann:kO
 find:aC
 drop:CR
 sweep:tY
def aH.new (L:Ly) (t:bq) (limit:Int):aH:=⟨⟨0,false,0⟩,false,t,limit,0,.new,.new L 0 0 0,.new,.new L 0 .zero 0,⟨0,0,0,0⟩,.new L 0 0 0 0,⟨0,0⟩,none⟩
def aH.leave (me:Int) (d:aH):aH:={ d with at_:=8,drop:=⟨me,0⟩ }
def aH.aU (L:Ly) (me:Int) (d:aH):aH:={ d with at_:=3,fast:= .new L me d.task d.limit }
def aH.want (L:Ly) (me:Int) (t:cV) (d:aH):aH:=if d.task.links && decide (t.spare=0) then { d with at_:=2,a5:= .new } else d.aU L me
def aH.looked (L:Ly) (me:Int) (t:cV) (d:aH):aH:=if d.head.u<0 then d.want L me t else { d with at_:=1,help:= .new L d.head.u d.head.no d.limit }
def aH.told (L:Ly) (me:Int) (d:aH) (r:ku):aH:=
 let g:aH:={ d with res:=r }
 if r.ok=false∨d.task.marks=false then g.leave me else { g with at_:=7,find:= .new L me d.task.head d.task.lC d.limit }
def aH.tried (L:Ly) (me:Int) (d:aH):aH:=if d.fast.failed=false then d.told L me d.fast.res else { d with slow:=true,at_:=4,ann:= .new d.task }
def aH.ensured (L:Ly) (me:Int) (d:aH):aH:=if d.a5.short then ({ d with res:=⟨4,false,0⟩ }:aH).leave me else d.aU L me
def tZ (L:Ly) (t:cV):Bool:=decide (4*L.th≤(t.ret.length:Int))
def ak (M:ML) (me:Int) (m:Mm) (t:cV) (d:aH):Bool×Mm×cV×aH:=
 if d.at_=0 then
  let r:=cq M m d.head
  let g:aH:={ d with head:=r.2.2 }
  (false,r.2.1,t,if r.1 then g.looked M.L me t else g)
 else if d.at_=1 then
  let r:=ah M me m t d.help
  let g:aH:={ d with help:=r.2.2.2 }
  (false,r.2.1,r.2.2.1,if r.1 then g.want M.L me r.2.2.1 else g)
 else if d.at_=2 then
  let r:=aF M me m t d.a5
  let g:aH:={ d with a5:=r.2.2.2 }
  (false,r.2.1,r.2.2.1,if r.1 then g.ensured M.L me else g)
 else if d.at_=3 then
  let r:=aJ M me m t d.fast
  let g:aH:={ d with fast:=r.2.2.2 }
  (false,r.2.1,r.2.2.1,if r.1 then g.tried M.L me else g)
 else if d.at_=4 then
  let r:=aW M me m d.ann
  let g:aH:={ d with ann:=r.2.2 }
  (false,r.2.1,t,if r.1 then { g with at_:=5,help:= .new M.L me r.2.2.no d.limit } else g)
 else if d.at_=5 then
  let r:=ah M me m t d.help
  let g:aH:={ d with help:=r.2.2.2 }
  (false,r.2.1,r.2.2.1,if r.1 then { g with at_:=6 } else g)
 else if d.at_=6 then (false,m,t,d.told M.L me (getD' (ld M m (M.L.desc me))).res)
 else if d.at_=7 then
  let r:=ax M m d.find
  let g:aH:={ d with find:=r.2.2 }
  if r.1 then (false,r.2.1,t.retire r.2.2.aQ,g.leave me) else (false,r.2.1,t,g)
 else if d.at_=8 then
  let r:=ey M m d.drop
  let g:aH:={ d with drop:=r.2.2 }
  if r.1 then (!tZ M.L t,r.2.1,t,{ g with at_:=9,sweep:=none }) else (false,r.2.1,t,g)
 else
  let r:=bK M m t d.sweep
  (r.1,r.2.1,r.2.2.1,{ d with sweep:=r.2.2.2 })
def yv (m:Mm):Prop:=∀ i,0≤m i∧m i<18446744073709551616
variable {M:ML} {m:Mm}
theorem nR (h:yv m) (a:Int):0≤ld M m a∧ld M m a<18446744073709551616:=by
 unfold ld
 split
 ·exact h _
 ·omega
theorem cD (m:Mm) {a:Int} (x:Int) (h:0≤a∧a<M.L.size):ld M (st M m a x) a=x:=by
 unfold ld st
 rw[if_pos h,if_pos h,upd_same]
theorem aq (m:Mm) {a b:Int} (x:Int) (h:a≠b):ld M (st M m a x) b=ld M m b:=by
 unfold ld st
 split
 ·split
  ·rw[gb]
   intro e
   omega
  ·rfl
 ·rfl
theorem om {a old:Int} (h:bS M m a old=true):ld M m a=old:=by
 unfold bS at h
 simp only[Bool.and_eq_true,decide_eq_true_eq] at h
 unfold ld
 rw[if_pos h.1];exact h.2
theorem iW {a old:Int} (x:Int) (h:bS M m a old=true):cas M m a old x=st M m a x:=by unfold cas;rw[if_pos h]
theorem iX {a old:Int} (x:Int) (h:bS M m a old=false):cas M m a old x=m:=by unfold cas;rw[if_neg (by rw[h];decide)]
theorem Az {a old:Int} (h:0≤a∧a<M.L.size):bS M m a old=decide (ld M m a=old):=by
 unfold bS ld
 rw[if_pos h,decide_eq_true h,Bool.true_and]
theorem kP (h:yv m) (a x:Int) (hx:0≤x∧x<18446744073709551616):yv (st M m a x):=by
 intro i
 unfold st
 split
 ·unfold upd
  split
  ·exact hx
  ·exact h i
 ·exact h i
structure yw (L:Ly) (x:Int):Prop where
 MJ:(getD' x).status≤5
 at_:2≤(getD' x).status→(getD' x).status≤4→(1≤(getD' x).addr∧(getD' x).addr≤L.nd+4)∧(getD' x).next≤L.nd
structure gF (L:Ly) (x y:Int):Prop where
 ok:yw L y
 path:((getD' x).status=1∧(getD' y).aM=(getD' x).aM∧((getD' y).status=2∨((getD' y).status=5∧(getD' y).addr=0∧(getD' y).ver=0∧(getD' y).next≤1)))∨
  ((getD' x).status=2∧(getD' y=(getD' x).with_ 3∨getD' y=(getD' x).with_ 4))∨
  ((getD' x).status=3∧getD' y=⟨(getD' x).aM,0,0,0,true,5,(getD' x).val⟩)∨
  ((getD' x).status=4∧getD' y=(getD' x).cm)
structure ff (M:ML) (m:Mm):Prop where
 rng:yv m
 word:∀ a,1≤a→a≤M.L.nd+4→(aE (ld M m a)).next≤M.L.nd
 desc:∀ v,0≤v→v<M.L.th→yw M.L (ld M m (M.L.desc v))
structure Safe (M:ML) (m m':Mm):Prop where
 rng:yv m'
 word:∀ a,1≤a→a≤M.L.nd+4→(aE (ld M m' a)).next≤M.L.nd
 desc:∀ v,0≤v→v<M.L.th→ld M m' (M.L.desc v)=ld M m (M.L.desc v)∨gF M.L (ld M m (M.L.desc v)) (ld M m' (M.L.desc v))
 task:∀ v,0≤v→v<M.L.th→ld M m' (M.L.task v)=ld M m (M.L.task v)
 tick:∀ v,0≤v→v<M.L.th→ld M m' (M.L.ticket v)=ld M m (M.L.ticket v)
 life:∀ n,1≤n→n≤M.L.nd→ld M m' (M.L.life n)=ld M m (M.L.life n)∨ld M m' (M.L.life n)=(ld M m (M.L.life n)+1) % 18446744073709551616
theorem Safe.refl (h:ff M m):Safe M m m:=⟨h.rng,h.word,fun _ _ _=> .inl rfl,fun _ _ _=>rfl,fun _ _ _=>rfl,fun _ _ _=> .inl rfl⟩
theorem xG (h:ff M m) {a x:Int} (hx:0≤x∧x<18446744073709551616) (hw:a<1∨M.L.nd+4<a) (hl:∀ n,1≤n→n≤M.L.nd→a≠M.L.life n) (hr:∀ v,0≤v→v<M.L.th→a≠M.L.desc v∧a≠M.L.task v∧a≠M.L.ticket v):Safe M m (st M m a x):=
 ⟨kP h.rng _ _ hx,fun b h1 h2=>by rw[aq _ _ (by omega)];exact h.word b h1 h2,fun v h0 h1=> .inl (aq _ _ (hr v h0 h1).1),fun v h0 h1=>aq _ _ (hr v h0 h1).2.1,fun v h0 h1=>aq _ _ (hr v h0 h1).2.2,fun n h0 h1=> .inl (aq _ _ (hl n h0 h1))⟩
theorem my (h:ff M m) {t n x:Int} (hx:0≤x∧x<18446744073709551616) (hL:M.L.Ok) (ht:0≤t∧t<M.L.th) (hn:0≤n∧n≤1):Safe M m (st M m (M.L.slot t n) x):=by
 have h1:=hL.th;have h2:=hL.nd
 refine xG h hx (.inr ?_) (fun k h3 h4=> ?_) (fun v h3 h4=> ?_)
 ·simp only[Ly.slot];omega
 ·simp only[Ly.slot,Ly.life];omega
 ·simp only[Ly.slot,Ly.desc,Ly.task,Ly.ticket];omega
theorem rj (h:ff M m) {a x:Int} (hx:0≤x∧x<18446744073709551616) (hL:M.L.Ok) (ha:0≤a∧a≤M.L.nd+4) (hn:(aE x).next≤M.L.nd):Safe M m (st M m a x):=by
 have h1:=hL.th;have h2:=hL.nd
 have hin:0≤a∧a<M.L.size:=by simp only[Ly.size];omega
 refine⟨kP h.rng _ _ hx,fun b h3 h4=> ?_,fun v h3 h4=> .inl (aq _ _ ?_),fun v h3 h4=>aq _ _ ?_,fun v h3 h4=>aq _ _ ?_,fun n h3 h4=> .inl (aq _ _ ?_)⟩
 ·by_cases e:a=b
  ·subst e;rw[cD _ _ hin];exact hn
  ·rw[aq _ _ e];exact h.word b h3 h4
 ·simp only[Ly.desc];omega
 ·simp only[Ly.task];omega
 ·simp only[Ly.ticket];omega
 ·simp only[Ly.life];omega
theorem gd (h:ff M m) {a old x:Int} (hx:0≤x∧x<18446744073709551616) (hL:M.L.Ok) (ha:0≤a∧a≤M.L.nd+4) (hn:(aE x).next≤M.L.nd):Safe M m (cas M m a old x):=by
 cases hq:bS M m a old with
 | false=>rw[iX _ hq];exact .refl h
 | true=>rw[iW _ hq];exact rj h hx hL ha hn
theorem rm (h:ff M m) {n:Int} (hL:M.L.Ok) (hn:1≤n∧n≤M.L.nd):Safe M m (st M m (M.L.life n) ((ld M m (M.L.life n)+1) % 18446744073709551616)):=by
 have h1:=hL.th;have h2:=hL.nd
 have hin:0≤M.L.life n∧M.L.life n<M.L.size:=by simp only[Ly.size,Ly.life];omega
 refine⟨kP h.rng _ _ (by omega),fun b h3 h4=> ?_,fun v h3 h4=> .inl (aq _ _ ?_),fun v h3 h4=>aq _ _ ?_,fun v h3 h4=>aq _ _ ?_,fun k h3 h4=> ?_⟩
 ·rw[aq _ _ (by simp only[Ly.life];omega)];exact h.word b h3 h4
 ·simp only[Ly.desc,Ly.life];omega
 ·simp only[Ly.task,Ly.life];omega
 ·simp only[Ly.ticket,Ly.life];omega
 ·by_cases e:n=k
  ·subst e;exact .inr (cD _ _ hin)
  ·exact .inl (aq _ _ (by simp only[Ly.life];omega))
theorem ua (h:ff M m) {n:Int} (hL:M.L.Ok) (hn:1≤n∧n≤M.L.nd):Safe M m (add M m (M.L.life n) 1):=rm h hL hn
theorem yx (h:ff M m) {n f:Int} (hL:M.L.Ok) (hn:1≤n∧n≤M.L.nd):Safe M m (cas M m (M.L.life n) f ((f+1) % 18446744073709551616)):=by
 cases hq:bS M m (M.L.life n) f with
 | false=>rw[iX _ hq];exact .refl h
 | true=>
  rw[iW _ hq]
  have:=rm h hL hn
  rw[om hq] at this
  exact this
theorem fg (h:ff M m) {v old x:Int} (hx:0≤x∧x<18446744073709551616) (hL:M.L.Ok) (hv:0≤v∧v<M.L.th) (hp:gF M.L old x):Safe M m (cas M m (M.L.desc v) old x):=by
 have h1:=hL.th;have h2:=hL.nd
 have hin:0≤M.L.desc v∧M.L.desc v<M.L.size:=by simp only[Ly.size,Ly.desc];omega
 cases hq:bS M m (M.L.desc v) old with
 | false=>rw[iX _ hq];exact .refl h
 | true=>
  rw[iW _ hq]
  have he:=om hq
  refine⟨kP h.rng _ _ hx,fun b h3 h4=> ?_,fun u h3 h4=> ?_,fun u h3 h4=>aq _ _ ?_,fun u h3 h4=>aq _ _ ?_,fun k h3 h4=> .inl (aq _ _ ?_)⟩
  ·rw[aq _ _ (by simp only[Ly.desc];omega)];exact h.word b h3 h4
  ·by_cases e:v=u
   ·subst e;rw[cD _ _ hin,he];exact .inr hp
   ·exact .inl (aq _ _ (by simp only[Ly.desc];omega))
  ·simp only[Ly.desc,Ly.task];omega
  ·simp only[Ly.desc,Ly.ticket];omega
  ·simp only[Ly.desc,Ly.life];omega
theorem yy {x:Int} (s:Int) (hs:0≤s∧s<8):getD' (cL ((getD' x).with_ s))=(getD' x).with_ s:=by
 have h:=cX x
 exact dH ⟨h.aM,h.addr,h.ver,h.next,hs,h.val⟩
variable {L:Ly}
theorem kQ {x:Int} (h:yw L x) (h2:(getD' x).status=2) (s:Int) (hs:s=3∨s=4):gF L x (cL ((getD' x).with_ s)):=by
 have e:=yy (x:=x) s (by omega)
 have hat:=h.at_ (by omega) (by omega)
 refine⟨⟨by rw[e];simp only[Ds.with_];omega,fun _ _=>by rw[e];exact hat⟩,.inr (.inl ⟨h2,?_⟩)⟩
 rw[e]
 rcases hs with rfl | rfl
 ·exact .inl rfl
 ·exact .inr rfl
theorem mA (x:Int) (code:Int) (ok:Bool) (val:Int) (hv:0≤val∧val<1024):((getD' x).ended code ok val).Fit:=by
 have h:=cX x
 refine⟨h.aM,by simp[Ds.ended],by simp[Ds.ended],?_,by simp[Ds.ended],hv⟩
 simp only[Ds.ended]
 split<;>omega
theorem vT {x:Int} (h3:(getD' x).status=3):gF L x (cL ((getD' x).ended 0 true (getD' x).val)):=by
 have e:=dH (mA x 0 true (getD' x).val (cX x).val)
 refine⟨⟨by rw[e];simp[Ds.ended],fun h4 h5=>by rw[e] at h5;simp[Ds.ended] at h5⟩,.inr (.inr (.inl ⟨h3,?_⟩))⟩
 rw[e];rfl
theorem ub {x:Int} (h1:(getD' x).status=1) (code:Int) (ok:Bool) (val:Int) (hv:0≤val∧val<1024):gF L x (cL ((getD' x).ended code ok val)):=by
 have e:=dH (mA x code ok val hv)
 refine⟨⟨by rw[e];simp[Ds.ended],fun h4 h5=>by rw[e] at h5;simp[Ds.ended] at h5⟩,.inl ⟨h1,?_,.inr ?_⟩⟩
 ·rw[e];rfl
 ·rw[e]
  refine⟨rfl,rfl,rfl,?_⟩
  simp only[Ds.ended]
  split<;>omega
theorem hO (x:Int):(getD' x).cm.Fit:=by
 have h:=(cX x).aM
 refine⟨?_,?_,?_,?_,?_,?_⟩<;>simp only[Ds.cm]<;>omega
theorem vU {x:Int} (h4:(getD' x).status=4):gF L x (cL (getD' x).cm):=by
 have e:=dH (hO x)
 exact⟨⟨by rw[e];simp[Ds.cm],fun h5 h6=>by rw[e] at h5;simp[Ds.cm] at h5⟩,.inr (.inr (.inr ⟨h4,by rw[e]⟩))⟩
theorem dN (d:Ds):0≤cL d∧cL d<18446744073709551616:=by have:=gV d;omega
theorem dO (w:Wd):0≤eU w∧eU w<18446744073709551616:=by have:=fA w;omega
theorem fD (L:Ly) (hL:L.Ok) (w:World):Calls Tryz.prog 173 #[L.val] w fun e w'=>e= .returned (.int .i64 (2*L.th))∧Below w.heap.size w w':=by
 obtain⟨h1,h2⟩:=hL
 obtain⟨th,nd⟩:=L
 simp only at h1 h2
 simp only[Ly.val]
 have e1:wrap64 (2*th)=2*th:=IntWalk.wrap64_in _ (by omega)
 go_enter Tryz.func173,Tryz.ntmps173
 go_wp2_with fail
 go_ret
 exact⟨fp (by first | rfl | exact e1 | omega),(Below.refl _ _).alloc (Nat.le_refl _) _⟩
theorem j6:Go.Maps.Keyed Tryz.prog 3:=Go.Maps.int_keyed Tryz.underlying3
theorem AA (w:World):(zeroValue 4).run Tryz.prog w= .ok (.bool false) w:=by kernel_rfl
theorem nS (x:Int) (h: -9223372036854775808≤x∧x<9223372036854775808):keyOf Tryz.prog 3 (.int .i64 x)=some (.int .i64 x):=Go.Maps.keyOf_int_mk Tryz.underlying3 (by simp only[Lit.wf];rw[decide_eq_true (show IntKind.i64.min≤x by rw[show IntKind.i64.min= -9223372036854775808 by decide];omega),decide_eq_true (show x≤IntKind.i64.max by rw[show IntKind.i64.max=9223372036854775807 by decide];omega)];rfl)
def cA (w:World) (b n:Nat) (l:List Int):Prop:=
 ∃ D:DataW Unit,w.ownsMap Tryz.prog 3 (plainElem Tryz.prog 4) b n D∧Go.Maps.IsMap D∧∀ x:Int,D.atKey (.int .i64 x) (.lit (.bool false))= .lit (.bool (l.contains x))
theorem cA.made (w:World):cA (w.alloc (.map #[] 0)) w.heap.size 0 []:=by
 refine⟨.map [],World.ownsMap_made w _ _ _,(World.ownsMap_made w Tryz.prog 3 (plainElem Tryz.prog 4)).isMap,fun x=> ?_⟩
 simp[DataW.atKey]
variable {w w':World}
theorem cA.step {b n:Nat} {l:List Int} (h:cA w b n l) (hb:Below w.heap.size w w'):cA w' b n l:=by
 obtain⟨D,h1,h2,h3⟩:=h
 have hlt:=h1.lt
 obtain⟨es,clock,h4,h5⟩:=h1
 exact⟨D,⟨es,clock,(hb.block b hlt).trans h4,h5⟩,h2,h3⟩
theorem cA.fr {b n:Nat} {l:List Int} {C:Nat→Nat} {K:Nat→Prop} {T:List (Option TypeId)} {c:Nat} (h:cA w b n l) (k:Fr C K T w w') (hC:C b=c) (hk:¬ K c∨none∉T):cA w' b n l:=by
 obtain⟨D,h1,h2,h3⟩:=h
 obtain⟨es,clock,h4,h5⟩:=h1
 exact⟨D,⟨es,clock,k.keep b _ h4 (by rw[hC];exact hk),h5⟩,h2,h3⟩
theorem cA.lt {b n:Nat} {l:List Int} (h:cA w b n l):b<w.heap.size:=by
 obtain⟨D,h1,-⟩:=h;exact h1.lt
theorem kR {P:Program} {e:TypeId} (he:P.underlying e=some .bool) {v:Value} {x:Bool} {ps:List MemPlace} (h:plainElem (H:=Unit) P e v=some (.lit (.bool x),ps)):v= .bool x:=by
 unfold plainElem at h
 rw[he] at h
 cases v<;>simp at h
 obtain⟨rfl,-⟩:=h
 rfl
theorem cA.look {b n:Nat} {l:List Int} (h:cA w b n l) (x:Int) (key:Value) (hkey:keyOf Tryz.prog 3 key=some (.int .i64 x)):
  (Instr.lookup 209 (.map (some b)) key false).run Tryz.prog w= .ok (.bool (l.contains x)) w:=by
 obtain⟨D,h1,h2,h3⟩:=h
 obtain⟨v,ps,hrun,hv⟩:=h1.lookup j6 Tryz.underlying209 (AA w) (plainElem_bool Tryz.underlying4 false) hkey
 rw[h3 x] at hv
 rw[hrun]
 rw[kR Tryz.underlying4 hv]
theorem cA.put {b n:Nat} {l:List Int} (h:cA w b n l) (hn:n<maxLen) (x:Int) (key:Value) (hkey:keyOf Tryz.prog 3 key=some (.int .i64 x)):
  ∃ w',(Instr.mapUpdate 209 (.map (some b)) key (.bool true)).run Tryz.prog w= .ok () w'∧cA w' b (n+1) (x::l)∧w.grownBy w' (some b):=by
 obtain⟨D,h1,h2,h3⟩:=h
 obtain⟨w',hrun,h4,h5⟩:=h1.update j6 Tryz.underlying209 hn hkey (plainElem_bool Tryz.underlying4 true)
 refine⟨w',hrun,⟨_,h4,h4.isMap,fun y=> ?_⟩,h5⟩
 by_cases he:y=x
 ·subst he
  rw[Go.Maps.atKey_put_same h2 (by simp[WideAt.IsKeyLit])]
  simp
 ·rw[Go.Maps.atKey_put_other (fun e=>he (by injection e)),h3 y]
  have:(x::l).contains y=l.contains y:=by simp[he]
  rw[this]
variable {P:Program} {ops:Array Oper} {Q:Exit→Act→World→Prop}
theorem qm {id:Nat} {l:List Oper} {a:Act} {w:World} (S:World→Prop) (n:Nat) (ls:List Nat) (i j:Nat) (is:List Nat) (hm:P.follows .mixedOrders=true)
  (hB:(Region.noSelect l.toArray && Region.chainB .any l.toArray n && decide (ls.length+(is.length+2)=l.length) &&
   gD .any l.toArray n (cG .any l.toArray n [n]) ls (Array.replicate l.toArray.size false) &&
   decide (Region.ready .any l.toArray (bV ls (Array.replicate l.toArray.size false))=[i,j]) &&
   Cn .any l.toArray n (cG .any l.toArray n [n]) [([],j)] ((bV ls (Array.replicate l.toArray.size false)).setIfInBounds i true) &&
   fR .any l.toArray is (fB [([],j)] ((bV ls (Array.replicate l.toArray.size false)).setIfInBounds i true)) &&
   Cn .any l.toArray n (cG .any l.toArray n [n]) [([],i)] ((bV ls (Array.replicate l.toArray.size false)).setIfInBounds j true) &&
   fR .any l.toArray is (fB [([],i)] ((bV ls (Array.replicate l.toArray.size false)).setIfInBounds j true)))=true)
  (hS:S w.drew)
  (h:wpQuiet P l.toArray S (fun a'=>
   wpOp P l.toArray (NoPanic Q) i (fun a'' w''=>S w''∧iK P l.toArray (NoPanic Q) S (fun a w=>cH P l.toArray (NoPanic Q) S n is a w) [([],j)] a'' w'') a' w.drew∧
   wpOp P l.toArray (NoPanic Q) j (fun a'' w''=>S w''∧iK P l.toArray (NoPanic Q) S (fun a w=>cH P l.toArray (NoPanic Q) S n is a w) [([],i)] a'' w'') a' w.drew) (au l.toArray ls) a):(Code.region id l.toArray true).wp P Q a w:=by
 refine wp_region_noPanic ?_
 simp only[Bool.and_eq_true,decide_eq_true_eq] at hB
 obtain⟨⟨⟨⟨⟨⟨⟨⟨h1,h2⟩,h3⟩,h4⟩,h5⟩,h6⟩,h7⟩,h8⟩,h9⟩:=hB
 refine wp_region_any hm (gi (S:=S) (n:=n) _ _ _ _ ?_)
 have hQ:∀ c a d v w,NoPanic Q (.panic c) (Act.put a d v) w→NoPanic Q (.panic c) a w:=fun _ _ _ _ _ h=>h
 have inv:=gK.start .any l.toArray
 have key:∀ i j:Nat,i∈Region.ready .any l.toArray (bV ls (Array.replicate l.toArray.size false))→
   Cn .any l.toArray n (cG .any l.toArray n [n]) [([],j)] ((bV ls (Array.replicate l.toArray.size false)).setIfInBounds i true)=true→
   fR .any l.toArray is (fB [([],j)] ((bV ls (Array.replicate l.toArray.size false)).setIfInBounds i true))=true→
   gK .any l.toArray (bV ls (Array.replicate l.toArray.size false))→∀ a':Act,
   wpOp P l.toArray (NoPanic Q) i (fun a'' w''=>S w''∧iK P l.toArray (NoPanic Q) S (fun a w=>cH P l.toArray (NoPanic Q) S n is a w) [([],j)] a'' w'') a' w.drew→
   wpOp P l.toArray (NoPanic Q) i (fun a'' w''=>(need l.toArray n i=true→S w'')∧eW P .any l.toArray (NoPanic Q) S n (is.length+1) ((bV ls (Array.replicate l.toArray.size false)).setIfInBounds i true) a'' w'') a' w.drew:=by
  intro i j hi hp ht hv a' h
  refine wpOp_mono (fun a'' w'' h''=>⟨fun _=>h''.1,?_⟩) h
  have h2':=jZ (ops:=l.toArray) (Q:=NoPanic Q) (S:=S) h1 h2 hQ [] is [([],j)] _ a'' w'' (hv.set hi) hp (by rfl) (by simpa [bV] using ht) h''.1 h''.2
  have e:gX [([],j)]+([]:List Nat).length+is.length=is.length+1:=by simp[gX];omega
  rw[e] at h2'
  exact h2'
 have fin:=fU (P:=P) (ops:=l.toArray) (Q:=NoPanic Q) (S:=S) h1 h2 hQ (is.length+2) ls _ a w.drew inv h4 hS ?_
 ·rw[h3] at fin
  simpa using fin
 ·refine eM (fun a' h' hv=> ?_) _ _ h
  refine⟨fun hr=>(by rw[h5] at hr;cases hr),fun k hk=> ?_⟩
  have hk':k=i∨k=j:=by rw[h5] at hk;simpa using hk
  rcases hk' with rfl | rfl
  ·exact key k j hk h6 h7 hv a' h'.1
  ·exact key k i hk h8 h9 hv a' h'.2
structure CU (L:Ly) (n:Nat) (xs:List Value) (w:World) (e:Ending) (w':World):Prop where
 out:∃ (b mb:Nat) (v:Value),e= .returned (.pointer (some ⟨b,0,none⟩))∧w.heap.size≤b∧w.heap.size≤mb∧b≠mb∧v.ownBlock≠some b∧
  a8 w' b 212 #[.int .i64 L.th,.int .i64 L.nd,.slice none 0 0,.slice none 0 0,v,.map (some mb),.int .i64 0,.pointer none]∧
  w'.ownsRow w.heap.size 3 1 v n xs∧cA w' mb 0 []
 below:Below w.heap.size w w'
theorem yz (L:Ly) (A:Option Addr) (n c B:Nat) (xs:List Value) (w:World) (hr:Sl w B 1 A n xs) (hB:B≤w.heap.size) (h1:∀ u∈xs,u.oneCell'=true) (hn:n≤100000) (hnil:A=none→n=0∧c=0):
  Calls Tryz.prog 136 #[L.val,.slice A n c] w (CU L n xs w):=by
 have HC:=Lib.hid (fun (W:World) (k:Below w.heap.size w W)=>rh A n c B xs W (hr.step hB k) (Nat.le_trans hB k.size) h1 (by omega) hnil)
 clear hr h1 hnil
 obtain⟨th,nd⟩:=L
 simp only[Ly.val]
 go_enter Tryz.func136,Tryz.ntmps136
 go_wp2_with fail
 have hx:=a8.new w 31 #[.int .i64 th,.int .i64 nd]
 have hb0:Below w.heap.size w (w.alloc (.cells #[.int .i64 th,.int .i64 nd] 31)):=(Below.refl _ _).alloc (Nat.le_refl _) _
 generalize hW:(w.alloc (.cells #[.int .i64 th,.int .i64 nd] 31))=w1 at *
 have hs1:=hb0.size
 have q:=Later.cells (B:=w1.heap.size) hx hx.lt
 refine qm (fun w'=>∃ q:Later w1.heap.size w1,w'=q.val) 4 [1,0] 2 3 [4,5,6] (by kernel_rfl) (by kernel_rfl) (Later.bI (Below.refl _ _).drew) ?_
 simp only[au,List.map_cons,List.map_nil,List.getD_cons_zero,List.getD_cons_succ]
 repeat(go_big_quiet_step (fail))
 refine wpQuiet_nil ?_
 have hmk:∀ W:World,(Instr.makeMap 209 none).run Tryz.prog W= .ok (.map (some W.heap.size)) (W.alloc (.map #[] 0)):=fun W=>rfl
 have CV:Below w1.heap.size w1 (w1.alloc (.map #[] 0)).drew:=((Below.refl _ _).alloc (Nat.le_refl _) _).drew
 refine⟨?_,?_⟩
 ·skip
  refine bm rfl (fun K' hK'=> ?_)
  go_simp
  ((with_reducible refine(HC.out _ hb0.drew).mono ?_);rintro e w2 ⟨v,rfl,hown,hb2⟩)
  obtain⟨A7,c7,rfl,G2,-,-⟩:=bF hown
  refine hK' _ _ (Later.bI ((Below.refl w1.heap.size w1).drew.trans hb2)) ?_
  clear hK' K'
  refine ai ?_
  simp only[au,List.map_nil]
  repeat(go_big_quiet_step (fail))
  refine wpQuiet_nil ?_
  refine bm rfl (fun K' hK'=> ?_)
  go_simp
  refine hK' _ _ (Later.bI (((Below.refl w1.heap.size w1).drew.trans hb2).alloc hb2.size _)) ?_
  clear hK' K'
  refine af ?_
  refine ae _ _ _ (by kernel_rfl) ?_
  try simp only[au,List.map_cons,List.map_nil,List.getD_cons_zero,List.getD_cons_succ]
  clear q hW
  go_wp2_with fail
  refine NoPanic.normal ?_
  go_wp2_with fail
  have hs2:=hb2.size
  have hs3:w1.heap.size≤w2.heap.size:=hs2
  refine bodyPost_ret (v:= .pointer (some ⟨w2.heap.size+1,0,none⟩)) (by simp[results,Tryz.results136,go_sem]) rfl ⟨⟨w2.heap.size+1,w2.heap.size,.slice A7 n c7,rfl,by omega,by omega,by omega,?_,a8.newAt _ _ _ (by simp),?_,?_⟩,?_⟩
  ·intro h;obtain⟨-,cs,hk⟩:=bH hown _ h;have:=hk.lt;omega
  ·exact eh (cW hown (((Below.refl _ _).alloc (Nat.le_refl _) _).alloc (by simp) _)) hs1
  ·exact(cA.made w2).step ((Below.refl _ _).alloc (Nat.le_refl _) _)
  ·exact((hb0.drew.trans (hb2.mono hs1)).alloc (by omega) _).alloc (by simp;omega) _
 ·skip
  refine bm rfl (fun K' hK'=> ?_)
  go_simp
  refine hK' _ _ (Later.bI CV) ?_
  clear hK' K'
  refine ai ?_
  simp only[au,List.map_nil]
  repeat(go_big_quiet_step (fail))
  refine wpQuiet_nil ?_
  refine bm rfl (fun K' hK'=> ?_)
  go_simp
  ((with_reducible refine(HC.out _ (hb0.alloc hs1 (.map #[] 0)).drew).mono ?_);rintro e w2 ⟨v,rfl,hown,hb2⟩)
  obtain⟨A7,c7,rfl,G2,-,-⟩:=bF hown
  refine hK' _ _ (Later.bI (CV.trans (hb2.mono CV.size))) ?_
  clear hK' K'
  refine af ?_
  refine ae _ _ _ (by kernel_rfl) ?_
  try simp only[au,List.map_cons,List.map_nil,List.getD_cons_zero,List.getD_cons_succ]
  clear q hW
  go_wp2_with fail
  refine NoPanic.normal ?_
  go_wp2_with fail
  have hs2:=hb2.size
  have hs3:w1.heap.size+1≤w2.heap.size:=by simpa using hs2
  have hbB:Below w.heap.size w w2:=(hb0.alloc hs1 (.map #[] 0)).drew.trans (hb2.mono (hb0.alloc hs1 (.map #[] 0)).drew.size)
  refine bodyPost_ret (v:= .pointer (some ⟨w2.heap.size,0,none⟩)) (by simp[results,Tryz.results136,go_sem]) rfl ⟨⟨w2.heap.size,w1.heap.size,.slice A7 n c7,rfl,by omega,by omega,by omega,?_,a8.newAt _ _ _ rfl,?_,?_⟩,?_⟩
  ·intro h;obtain⟨-,cs,hk⟩:=bH hown _ h;have:=hk.lt;omega
  ·exact eh (cW hown ((Below.refl _ _).alloc (Nat.le_refl _) _)) (hb0.alloc hs1 (.map #[] 0)).drew.size
  ·exact((cA.made w1).step ((Below.refl _ _).drew.trans hb2)).step ((Below.refl _ _).alloc (Nat.le_refl _) _)
  ·exact((hb0.drew.alloc hb0.drew.size _).trans (hb2.mono (by simp;omega))).alloc (by omega) _
def jr (seen l:List Int):List Int:=l.filter (fun x=>seen.contains x)
def gm (seen l:List Int):List Int:=l.filter (fun x=> !seen.contains x)
theorem rn (seen l:List Int):(jr seen l).length≤l.length:=List.length_filter_le ..
theorem mB (seen l:List Int):(gm seen l).length≤l.length:=List.length_filter_le ..
theorem yA {seen:List Int} {x:Int} (l:List Int) (h:seen.contains x=true):jr seen (l++[x])=jr seen l++[x]:=by
 unfold jr;rw[List.filter_append,List.filter_cons_of_pos (by exact h)];rfl
theorem AB {seen:List Int} {x:Int} (l:List Int) (h:seen.contains x=false):jr seen (l++[x])=jr seen l:=by
 unfold jr;rw[List.filter_append,List.filter_cons_of_neg (by rw[h];decide)];simp
theorem AD {seen:List Int} {x:Int} (l:List Int) (h:seen.contains x=false):gm seen (l++[x])=gm seen l++[x]:=by
 unfold gm;rw[List.filter_append,List.filter_cons_of_pos (by rw[h];decide)];rfl
theorem yB {seen:List Int} {x:Int} (l:List Int) (h:seen.contains x=true):gm seen (l++[x])=gm seen l:=by
 unfold gm;rw[List.filter_append,List.filter_cons_of_neg (by rw[h];decide)];simp
theorem j7 {base:Nat} {e:TypeId} {size n:Nat} {v:Value} {xs:List Value} (h:w.ownsRow base e size v n xs) (o:Obj):(w.alloc o).ownsRow base e size v n xs:=cW h ((Below.refl _ _).alloc (Nat.le_refl _) o)
theorem rp {base:Nat} {e:TypeId} {size n:Nat} {v:Value} {xs:List Value} {row:Option Nat} (h:w.ownsRow base e size v n xs) (hg:w.grownBy w' row) (hr:∀ g,v.ownBlock=some g→row≠some g):w'.ownsRow base e size v n xs:=by
 obtain⟨h1,h2⟩:=h
 refine⟨h1,?_⟩
 rcases h2 with h2 | ⟨g,cap,cur,rfl,hbg,hgl,rest⟩
 ·exact .inl h2
 ·exact .inr ⟨g,cap,cur,rfl,hbg,(hg.block g (lt_size hgl) (fun e=>hr g rfl e.symm)).trans hgl,rest⟩
variable {C:Nat→Nat} {K:Nat→Prop}
theorem Fr.rq {L:List (Option TypeId)} {a w w':World} {row:Option Nat} (h:Fr C K L a w) (hg:w.grownBy w' row) (hr:∀ g,row=some g→a.heap.size≤g):Fr C K L a w':=
 ⟨hg.os.trans h.os,hg.tape.trans h.tape,hg.output.trans h.output,Nat.le_trans h.size hg.size,fun g o ho hk=>by
  have h1:=h.keep g o ho hk
  rw[hg.block g (lt_size h1) (fun e=>by have:=hr g e.symm;have:=lt_size ho;omega)]
  exact h1⟩
structure sj (w:World) (C:Nat→Nat) (c b:Nat) (L:Ly) (l seen:List Int) (at_:Int):Prop where
 ex:∃ (An:Option Addr) (n cn mb k0:Nat),l.length=n∧SB w C c b 212 #[.int .i64 L.th,.int .i64 L.nd,.slice none 0 0,.slice none 0 0,.slice An n cn,.map (some mb),.int .i64 at_,.pointer none]∧Sr w C c 3 1 An n (cv l)∧n≤cn∧cA w mb k0 seen∧C mb=c∧(k0:Int)≤at_
structure oo (w:World) (C:Nat→Nat) (c s b:Nat) (L:Ly) (at_:Int) (kept freed give:List Int):Prop where
 ex:∃ (Ak Af:Option Addr) (nk nf ck cf bg:Nat) (vn vm:Value),kept.length=nk∧freed.length=nf∧
  SB w C c b 212 #[.int .i64 L.th,.int .i64 L.nd,.slice Ak nk ck,.slice Af nf cf,vn,vm,.int .i64 at_,.pointer (some ⟨bg,0,none⟩)]∧
  Row w C s 3 1 (.slice Ak nk ck) nk (cv kept)∧lB w C c bg L give
structure Hd (C:Nat→Nat) (c s b:Nat) (L:Ly) (l seen:List Int) (at_:Int) (w:World) (e:Ending) (w':World):Prop where
 ret:e= .returned (.bool (gm seen l).isEmpty)
 own:∃ C',aB w.heap.size C C'∧oo w' C' c s b L at_ (jr seen l) (gm seen l) (gm seen l)
 fr:Fr C (K0 c) [some 212] w w'
structure Eu (C:Nat→Nat) (c b mb N:Nat) (L:Ly) (An:Option Addr) (n cn:Nat) (at_:Int) (lk lf:List Int) (w wr:World):Prop where
 ex:∃ (Ak Af:Option Addr) (ck cf nk nf:Nat),lk.length=nk∧lf.length=nf∧a8 wr b 212 #[.int .i64 L.th,.int .i64 L.nd,.slice Ak nk ck,.slice Af nf cf,.slice An n cn,.map (some mb),.int .i64 at_,.pointer none]∧
  wr.ownsRow N 3 1 (.slice Ak nk ck) nk (cv lk)∧wr.ownsRow N 3 1 (.slice Af nf cf) nf (cv lf)∧
  (∀ g,Value.ownBlock (.slice Ak nk ck)=some g→Value.ownBlock (.slice Af nf cf)≠some g)
 fr:Fr C (K0 c) [some 212] w wr
 size:N≤wr.heap.size
theorem vV {c s b mb k0:Nat} {L:Ly} {l seen:List Int} {An:Option Addr} {n cn:Nat} {at_:Int} (hb:SB w C c b 212 #[.int .i64 L.th,.int .i64 L.nd,.slice none 0 0,.slice none 0 0,.slice An n cn,.map (some mb),.int .i64 at_,.pointer none]) (hn:l.length=n) (hn':n≤100000) (hsm:Small l)
  (hs:Sr w C c 3 1 An n (cv l)) (hse:cA w mb k0 seen) (hmb:C mb=c):Calls Tryz.prog 175 #[.pointer (some ⟨b,0,none⟩)] w (Hd C c s b L l seen at_ w):=by
 obtain⟨i0,hi,hz0,hz1,hz2⟩:=info_parts gZ
 have HN:=Lib.hid hn
 have mC:=Lib.hid hsm
 obtain⟨N,hNe⟩:∃ N,w.heap.size=N:=⟨_,rfl⟩
 have hc:=hb.blk.cells
 have HS:=Lib.hid hs
 have Ew:=Lib.hid hse
 have hI0:Eu C c b mb N L An n cn at_ (jr seen (l.take 0)) (gm seen (l.take 0)) w w:=⟨⟨none,none,0,0,0,0,rfl,rfl,hb.blk,World.ownsRow_nil _ _ _ _,World.ownsRow_nil _ _ _ _,by simp[Value.ownBlock]⟩,Fr.refl _ _ _ _,by omega⟩
 have HI0:=Lib.hid hI0
 have hbl:=hb.lt
 have hbC:=hb.col
 clear hn hsm hs hse hI0
 go_enter Tryz.func175,Tryz.ntmps175
 go_wp2_with fail
 go_loopw [10] (fun i wr=>∃ k:Nat,k≤n∧i= .int .i64 k∧Hid (Eu C c b mb N L An n cn at_ (jr seen (l.take k)) (gm seen (l.take k)) w wr)) (fun i _=>n - (intOf i).toNat)
 case atStart=>exact⟨0,by omega,rfl,HI0⟩
 case round=>
  obtain⟨k,hk,rfl,hI⟩:=hrel
  clear hc
  by_cases hlt:k<n
  ·have dk:decide ((k:Int)<(n:Int))=true:=by simp;omega
   obtain⟨x,hx⟩:∃ x,l[k]? =some x:=⟨_,List.getElem?_eq_getElem (by rw[HN.out];exact hlt)⟩
   have hkl:=rn seen (l.take k)
   have hfl:=mB seen (l.take k)
   have htk:(l.take k).length≤k:=by simp;omega
   have hsn:l.take (k+1)=l.take k++[x]:=by rw[List.take_add_one,hx];rfl
   obtain⟨⟨Ak,Af,ck,cf,nk,nf,hnk,hnf,hb,hok,hof,hne⟩,hfr,Ju⟩:=hI.out
   have He:=Lib.hid hsn
   clear hI hsn
   have Lw:=Lib.hid (HS.out.fr hfr (.inr (by decide)))
   have hcx:=Lw.out.sl.cell k (by omega)
   have hidx:=Lw.out.sl.idx (P:=Tryz.prog) (c:=cn) Tryz.underlying89 iL hlt
   simp only[cv,List.getElem?_map,hx,Option.map_some,Nat.mul_one] at hcx hidx
   have J2:cA wr mb k0 seen:=Ew.out.fr hfr hmb (.inr (by decide))
   have hlook:(Instr.lookup 209 (.map (some mb)) (.int .i64 x) false).run Tryz.prog wr= .ok (.bool (seen.contains x)) wr:=J2.look x _ (nS x (by have:=mC.out x (List.mem_of_getElem? hx);omega))
   obtain⟨lk,hlk⟩:∃ lk,jr seen (l.take k)=lk:=⟨_,rfl⟩
   obtain⟨lf,hlf⟩:∃ lf,gm seen (l.take k)=lf:=⟨_,rfl⟩
   rw[hlk] at hkl hok hnk
   rw[hlf] at hfl hof hnf
   have sk:=Lib.hid hlk
   have yC:=Lib.hid hlf
   have CW:=Lib.hid hnk
   have Fj:=Lib.hid hnf
   have MK:nk≤100000:=by omega
   have Hf:nf≤100000:=by omega
   clear hlk hlf hx hnk hnf hkl hfl htk
   cases hp:seen.contains x with
   | true=>
    rw[hp] at hlook
    have HP:=Lib.hid hp
    clear hp
    have own':=j7 hok (.cells #[.int .i64 x] 3)
    have vW:=j7 hof (.cells #[.int .i64 x] 3)
    have hc:=hb.cells
    have hba:=hb.alloc (.cells #[.int .i64 x] 3)
    have hca:=hba.cells
    have hfa:=hba.frees
    have hoa:=bH own'
    have hne1:=own_ne own' hba (by decide)
    have hne2:=own_ne vW hba (by decide)
    have hob:=bH vW
    go_wp2_with (at_builtin;refine wpList_append_lies _ rfl _ _ _ rfl N 3 i0 _ 1 8 Tryz.underlying89 hi hz0 hz1 hz2 rfl (by omega) (.slice Ak nk ck) nk (cv lk) rfl own' ⟨wr.heap.size,0,none⟩ 1 1 [.int .i64 x] rfl rfl (World.news_of_block (heap_alloc_new wr _)) (gE [x]) (by omega) (by unfold maxLen;omega) (by omega) (by simp;omega) (wr.heap.size+1) (by simp) ?_;intro g cap Cq hown2 hgrow hat hlt2;have iN:=hba.grown hgrow (by first | exact fun e=>hne1 e | exact fun e=>hne1 e.symm);have uc:=rp vW hgrow (by first | exact fun g hg e=>hne g e hg | exact fun g hg e=>hne g hg e);have AE:Fr C (K0 c) [some 212] w Cq:=(hfr.alloc (.cells #[.int .i64 x] 3)).rq hgrow (fun g hg=>by rw[hNe];exact(hoa g hg).1);have Hg:=hgrow.size;have hc12:=iN.cells;have Hh:=iN.frees)
    have Hj:(lk++[x]).length=nk+1:=by rw[List.length_append,CW.out];rfl
    have Hk:(lf++[x]).length=nf+1:=by rw[List.length_append,Fj.out];rfl
    refine⟨⟨k+1,by omega,by go_num,Lib.hid ?_⟩,by simp[intOf];omega⟩
    rw[He.out,yA _ HP.out,yB _ HP.out,sk.out,yC.out]
    have hsb:SB Cq C c b 212 _:=SB.mk iN hbC
    have ud:=AE.ao hsb (eO c) (by decide) 2 (.slice (some ⟨g,0,none⟩) (nk+1) cap)
    have hown3:Cq.ownsRow N 3 1 (.slice (some ⟨g,0,none⟩) (nk+1) cap) (nk+1) (cv (lk++[x])):=by simpa [cv] using hown2
    have ho1:=dB hown3 (a:=⟨b,2,none⟩) (own_ne hown3 iN (by decide)) (.slice (some ⟨g,0,none⟩) (nk+1) cap)
    have ho2:=dB uc (a:=⟨b,2,none⟩) (own_ne uc iN (by decide)) (.slice (some ⟨g,0,none⟩) (nk+1) cap)
    have hd:∀ g',g=g'→Value.ownBlock (.slice Af nf cf)≠some g':=by
     intro g' hg e
     subst hg
     rcases hat with hat | hat
     ·exact hne g (by assumption) (by assumption)
     ·obtain⟨-,cs,hk⟩:=hob g e
      have:=hk.lt
      simp at this;omega
    refine⟨⟨some ⟨g,0,none⟩,Af,cap,cf,nk+1,nf,Hj,Fj.out,iN.ao 2 _,ho1,ho2,fun g' hg'=>hd g' (by injection hg')⟩,ud,by rw[←hNe];exact ud.size⟩
   | false=>
    rw[hp] at hlook
    have HP:=Lib.hid hp
    clear hp
    have own':=j7 hof (.cells #[.int .i64 x] 3)
    have vW:=j7 hok (.cells #[.int .i64 x] 3)
    have hc:=hb.cells
    have hba:=hb.alloc (.cells #[.int .i64 x] 3)
    have hca:=hba.cells
    have hfa:=hba.frees
    have hoa:=bH own'
    have hne1:=own_ne own' hba (by decide)
    have hne2:=own_ne vW hba (by decide)
    have hob:=bH vW
    go_wp2_with (at_builtin;refine wpList_append_lies _ rfl _ _ _ rfl N 3 i0 _ 1 8 Tryz.underlying89 hi hz0 hz1 hz2 rfl (by omega) (.slice Af nf cf) nf (cv lf) rfl own' ⟨wr.heap.size,0,none⟩ 1 1 [.int .i64 x] rfl rfl (World.news_of_block (heap_alloc_new wr _)) (gE [x]) (by omega) (by unfold maxLen;omega) (by omega) (by simp;omega) (wr.heap.size+1) (by simp) ?_;intro g cap Cq hown2 hgrow hat hlt2;have iN:=hba.grown hgrow (by first | exact fun e=>hne1 e | exact fun e=>hne1 e.symm);have uc:=rp vW hgrow (by first | exact fun g hg e=>hne g e hg | exact fun g hg e=>hne g hg e);have AE:Fr C (K0 c) [some 212] w Cq:=(hfr.alloc (.cells #[.int .i64 x] 3)).rq hgrow (fun g hg=>by rw[hNe];exact(hoa g hg).1);have Hg:=hgrow.size;have hc12:=iN.cells;have Hh:=iN.frees)
    have Hj:(lk++[x]).length=nk+1:=by rw[List.length_append,CW.out];rfl
    have Hk:(lf++[x]).length=nf+1:=by rw[List.length_append,Fj.out];rfl
    refine⟨⟨k+1,by omega,by go_num,Lib.hid ?_⟩,by simp[intOf];omega⟩
    rw[He.out,AB _ HP.out,AD _ HP.out,sk.out,yC.out]
    have hsb:SB Cq C c b 212 _:=SB.mk iN hbC
    have ud:=AE.ao hsb (eO c) (by decide) 3 (.slice (some ⟨g,0,none⟩) (nf+1) cap)
    have hown3:Cq.ownsRow N 3 1 (.slice (some ⟨g,0,none⟩) (nf+1) cap) (nf+1) (cv (lf++[x])):=by simpa [cv] using hown2
    have ho1:=dB hown3 (a:=⟨b,3,none⟩) (own_ne hown3 iN (by decide)) (.slice (some ⟨g,0,none⟩) (nf+1) cap)
    have ho2:=dB uc (a:=⟨b,3,none⟩) (own_ne uc iN (by decide)) (.slice (some ⟨g,0,none⟩) (nf+1) cap)
    have hd:∀ g',g=g'→Value.ownBlock (.slice Ak nk ck)≠some g':=by
     intro g' hg e
     subst hg
     rcases hat with hat | hat
     ·exact hne g (by assumption) (by assumption)
     ·obtain⟨-,cs,hk⟩:=hob g e
      have:=hk.lt
      simp at this;omega
    refine⟨⟨Ak,some ⟨g,0,none⟩,ck,cap,nk,nf+1,CW.out,Hk,iN.ao 3 _,ho2,ho1,fun g' hg' e=>hd g' (by injection e) hg'⟩,ud,by rw[←hNe];exact ud.size⟩
  ·have dk:decide ((k:Int)<(n:Int))=false:=by simp;omega
   have hkn:k=n:=by omega
   subst hkn
   have hA:l.take k=l:=List.take_of_length_le (by rw[HN.out];exact Nat.le_refl _)
   have hkl:=rn seen l
   have hfl:=mB seen l
   rw[HN.out] at hkl hfl
   rw[hA] at hI
   obtain⟨⟨Ak,Af,ck,cf,nk,nf,hnk,hnf,hb,hok,hof,hne⟩,hfr,Ju⟩:=hI.out
   have Hl:Small (gm seen l):=fun x hx=>mC.out x (List.mem_filter.1 hx).1
   obtain⟨lk,hlk⟩:∃ lk,jr seen l=lk:=⟨_,rfl⟩
   obtain⟨lf,hlf⟩:∃ lf,gm seen l=lf:=⟨_,rfl⟩
   rw[hlk] at hkl hok hnk
   rw[hlf] at hfl hof hnf Hl
   have sk:=Lib.hid hlk
   have yC:=Lib.hid hlf
   have CW:=Lib.hid hnk
   have Fj:=Lib.hid hnf
   have Hf:nf≤100000:=by omega
   clear hlk hlf hnk hkl hfl hI hA
   have hc:=hb.cells
   have J3:=hb.lt
   go_wp2_with fail
   clear hc
   have q:=Later.cells (B:=wr.heap.size) hb J3
   refine az (fun w'=>∃ q:Later wr.heap.size wr,w'=q.val) 9 [] [0,1,2,3,4,5,6,7,8] [9,10,11,12] (by kernel_rfl) (by kernel_rfl) (Later.bI (Below.refl _ _).drew) ?_
   refine af ?_
   try simp only[au,List.map_cons,List.map_nil,List.getD_cons_zero,List.getD_cons_succ]
   repeat(go_big_quiet_step (fail))
   refine wpQuiet_nil ?_
   refine ae _ _ _ (by kernel_rfl) ?_
   try simp only[au,List.map_cons,List.map_nil,List.getD_cons_zero,List.getD_cons_succ]
   clear q
   obtain⟨C1,tt⟩:∃ C1:Nat→Nat,C1=fun g=>if g<N then C g else if Value.ownBlock (.slice Ak nk ck)=some g then s else c:=⟨_,rfl⟩
   have hag:aB N C C1:=fun g hg=>by rw[tt];exact if_pos hg
   have hrow:Row wr C1 s 3 1 (.slice Ak nk ck) nk (cv lk):=⟨eh hok (Nat.zero_le _),fun g hg=>by
    rw[tt]
    simp only
    rw[if_neg (by have:=(bH hok g hg).1;omega),if_pos hg]⟩
   have hsb:SB wr C1 c b 212 _:=SB.mk hb (by rw[tt];simp only;rw[if_pos (by omega)];exact hbC)
   have HB:=Lib.hid (Fr.eX hfr (Fr.refl C (K0 c) [some 212] wr).drew)
   obtain⟨A3,c3,hv3,hc3,hz3,-⟩:=bF hof
   injection hv3 with e1 _ e2
   subst e1 e2
   clear tt
   go_wp2_with fail
   refine(yu L lf Af nf cf wr.drew.heap.size C1 c _ ((Sl.cB hof).step (Nat.le_refl _) (Below.refl _ _).drew) (Nat.le_refl _) Fj.out Hf hz3 Hl).mono ?_
   rintro e w2 ⟨⟨bg,rfl,hbg,hgv⟩,hb2⟩
   have hb2':=(Below.refl wr.heap.size wr).drew.trans hb2
   obtain⟨C2,hC2⟩:∃ C2,C2=a9 C1 wr.heap.size c:=⟨_,rfl⟩
   have CX:aB wr.heap.size C1 C2:=by rw[hC2];exact aB.a9 C1 _ c
   have J4:lB w2 C2 c bg L lf:=by rw[hC2];exact hgv
   have hs3:=(hsb.nv CX).step hb2'
   have hr3:=(hrow.nv CX).step hb2'
   have hf3:=hfr.step hb2'
   have Fk:aB N C C2:=hag.trans CX Ju
   clear hsb hrow hfr hC2 hgv hag CX HB
   have hc:=hs3.blk.cells
   have hfz:=hs3.blk.frees
   have hs4:=hs3.ao 7 (.pointer (some ⟨bg,0,none⟩))
   have hr4:=hr3.ao hs3 (by decide) 7 (.pointer (some ⟨bg,0,none⟩))
   have hf4:=hf3.ao (SB.mk hs3.blk hbC:SB w2 C c b 212 _) (eO c) (by decide) 7 (.pointer (some ⟨bg,0,none⟩))
   have hg4:=J4.fr (hs3.qh 7 (.pointer (some ⟨bg,0,none⟩))) (.inr (by decide))
   go_wp2_with fail
   refine NoPanic.normal ?_
   have hc4:=hs4.blk.cells
   go_wp2_with fail
   have hie:((nf:Int)==0)=lf.isEmpty:=by
    rw[←Fj.out]
    cases lf with
    | nil=>rfl
    | cons y ys=>exact beq_eq_false_iff_ne.2 (by simp only[List.length_cons];omega)
   go_ret
   refine⟨congrArg (fun q=>Ending.returned (.bool q)) (hie.trans (by rw[yC.out])),⟨C2,by rw[hNe];exact Fk,?_⟩,hf4⟩
   rw[sk.out,yC.out]
   exact⟨Ak,Af,nk,nf,ck,cf,bg,_,_,CW.out,Fj.out,hs4,hr4,hg4⟩
end Go.Proofs.YtbcnnhlpilmmbaaGreat
