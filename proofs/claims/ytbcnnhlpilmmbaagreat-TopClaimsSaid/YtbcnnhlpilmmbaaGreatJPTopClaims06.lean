/- Texts that are wanted for PTopClaims.
   Conditions: none. -/
import Derived.Maps.OwnOps
import Derived.Maps.OwnSet
import Derived.Maps.Views
import Derived.Test.YtbcnnhlpilmmbaaGreatJPTopClaims05
set_option maxRecDepth 100000
set_option maxHeartbeats 6400000
namespace Go.Proofs.YtbcnnhlpilmmbaaGreat
open Go Go.RowKit
abbrev Mm:Type:=Nat→Int
structure cg where
 spare:Int
 ret:List Int
def cg.retire (s:cg) (l:List Int):cg:={ s with ret:=s.ret++l }
structure fY where
 nodes:List Int
 seen:List Int
 at_:Int
 kept:List Int
 freed:List Int
 give:List Int
def fY.new (l:List Int):fY:=⟨l,[],0,[],[],[]⟩
def fY.part (s:fY):fY:={ s with kept:=s.nodes.filter (fun x=>s.seen.contains x),freed:=s.nodes.filter (fun x=> !s.seen.contains x),give:=s.nodes.filter (fun x=> !s.seen.contains x) }
def fY.look (s:fY) (x:Int):fY:={ s with seen:=wrap64 x::s.seen,at_:=s.at_+1 }
def ct (M:ML) (m:Mm) (s:fY):Bool×Mm×fY:=
 if 2*M.L.th≤s.at_ then ((dH M m s.give).1,(dH M m s.give).2.1,{ s with give:=(dH M m s.give).2.2 })
 else if s.at_+1=2*M.L.th then ((s.look (ld M m (M.L.slot 0 s.at_))).part.freed.isEmpty,m,(s.look (ld M m (M.L.slot 0 s.at_))).part)
 else (false,m,s.look (ld M m (M.L.slot 0 s.at_)))
abbrev qV:Type:=Option fY
def a7 (M:ML) (m:Mm) (t:cg) (x:qV):Bool×Mm×cg×qV:=
 let r:=ct M m (x.getD (.new t.ret))
 (r.1,r.2.1,if r.1 then { t with ret:=r.2.2.kept } else t,some r.2.2)
structure jL where
 short:Bool
 alloc:Option iq
 scan:Option qV
 done:Bool
def jL.new:jL:=⟨false,none,none,false⟩
def jk (L:Ly) (me:Int):Int:=1+(me*L.nd).tdiv L.th
def l7 (L:Ly) (from_:Int):iq:=⟨0,if L.node from_ then from_ else 1,L.nd,0,false⟩
def mX (M:ML) (m:Mm) (t:cg) (e:jL) (a:iq):Bool×Mm×cg×jL:=
 let r:=ca M m a
 if r.1=false then (false,r.2.1,t,{ e with alloc:=some r.2.2 })
 else if r.2.2.got≠0 then (true,r.2.1,{ t with spare:=r.2.2.got },{ e with alloc:=some r.2.2 })
 else (e.done || t.ret.isEmpty,r.2.1,{ t with spare:=0 },{ e with alloc:=some r.2.2,short:=e.done || t.ret.isEmpty,scan:=some none })
def aK (M:ML) (me:Int) (m:Mm) (t:cg) (e:jL):Bool×Mm×cg×jL:=
 match e.scan with
 | some x=>
  let r:=a7 M m t x
  if r.1=false then (false,r.2.1,r.2.2.1,{ e with scan:=some r.2.2.2 })
  else (((r.2.2.2.getD (.new [])).freed).isEmpty,r.2.1,r.2.2.1,⟨((r.2.2.2.getD (.new [])).freed).isEmpty,none,none,true⟩)
 | none=>
  match e.alloc with
  | none=>if t.spare≠0 then (true,m,t,e) else mX M m t e (l7 M.L (jk M.L me))
  | some a=>mX M m t e a
structure kP where
 key:Int
 next:Int
 found:Int
 loaded:Bool
def kP.new (key next:Int):kP:=⟨key,next,0,false⟩
def kP.word (p:kP):Int:=dS ((⟨p.key,0,false,0,(ao p.found).ver⟩:Wd).link p.next)
def ch (M:ML) (m:Mm) (t:cg) (p:kP):Bool×Mm×kP:=
 if p.loaded=false then (false,m,{ p with found:=ld M m t.spare,loaded:=true })
 else (true,st M m t.spare p.word,p)
structure Pos where
 pred:Int
 pw:Int
 curr:Int
 cw:Int
structure aB where
 pos:Pos
 tries:Int
 aO:List Int
 ab:Bool
 me:Int
 from_:Int
 key:Int
 limit:Int
 at_:Int
 moved:Int
 cl:fo
def fo.new (addr:Int):fo:=⟨addr,0,0,0⟩
def aB.new (L:Ly) (me head key limit:Int):aB:=⟨⟨L.head head,0,0,0⟩,0,[],false,me,L.head head,key,limit,0,0,.new 0⟩
def aB.anew (f:aB):aB:={ f with pos:={ f.pos with pred:=f.from_ },moved:=0,at_:=0 }
def aB.over (f:aB):Bool:=decide (f.limit<f.tries+1)
def aB.aR (f:aB):aB:={ f with tries:=f.tries+1,ab:=f.over,pos:=if f.over then ⟨0,0,0,0⟩ else f.pos }
def aB.take (f:aB) (x:Int):Bool×aB:=
 if (ao x).mark then (false,f.anew) else (decide ((ao x).next=0),{ f with pos:=⟨f.pos.pred,x,(ao x).next,0⟩,at_:=1 })
def aB.cI (f:aB) (x:Int):Bool×aB:=if f.over then (true,f.aR) else f.aR.take x
def aB.move (L:Ly) (f:aB):Bool×Bool×aB:=
 if f.moved+1≤L.nd then (false,true,{ f with moved:=f.moved+1 })
 else if f.over then (true,false,({ f with moved:=f.moved+1 }:aB).aR)
 else (false,false,({ f with moved:=f.moved+1 }:aB).aR.anew)
def aB.look (f:aB) (x:Int):Bool×aB:=
 let g:aB:={ f with pos:={ f.pos with cw:=x } }
 if (ao x).mark=false then (if f.key≤(ao x).key then (true,g) else (false,{ g with at_:=6 }))
 else if (ao x).claim≠0 then (false,{ g with at_:=4,cl:= .new f.pos.curr })
 else if (ao f.pos.pw).claim≠0 then (false,{ g with at_:=4,cl:= .new f.pos.pred })
 else (false,{ g with at_:=5 })
def aB.cut (f:aB):Int:=dS ((ao f.pos.pw).link (ao f.pos.cw).next)
def aw (M:ML) (m:Mm) (f:aB):Bool×Mm×aB:=
 if f.at_=0 then
  let x:=ld M m f.pos.pred
  let r:=if (ao x).mark then f.cI x else f.take x
  (r.1,m,r.2)
 else if f.at_=1 then (false,st M m (M.L.slot f.me 1) f.pos.curr,{ f with at_:=2 })
 else if f.at_=2 then
  let x:=ld M m f.pos.pred
  if x≠f.pos.pw then ((f.cI x).1,m,(f.cI x).2) else (false,m,{ f with at_:=3 })
 else if f.at_=3 then ((f.look (ld M m f.pos.curr)).1,m,(f.look (ld M m f.pos.curr)).2)
 else if f.at_=4 then
  let r:=a9 M m f.cl
  if r.1 then (f.over,r.2.1,({ f with cl:=r.2.2,at_:=0 }:aB).aR) else (false,r.2.1,{ f with cl:=r.2.2 })
 else if f.at_=5 then
  if bA M m f.pos.pred f.pos.pw then
   let m':=cas M m f.pos.pred f.pos.pw f.cut
   let r:=({ f with aO:=f.aO++[f.pos.curr] }:aB).move M.L
   if r.2.1 then ((r.2.2.take f.cut).1,m',(r.2.2.take f.cut).2) else (r.1,m',r.2.2)
  else (f.over,m,({ f with at_:=0 }:aB).aR)
 else
  let r:=({ f with pos:={ f.pos with pred:=f.pos.curr },at_:=0 }:aB).move M.L
  (r.1,st M m (M.L.slot f.me 0) f.pos.curr,r.2.2)
structure cY where
 now:Bool
 res:lQ
 addr:Int
 old:Int
 next:Int
 mark:Bool
 pops:Int
def cY.zero:cY:=⟨false,⟨0,false,0⟩,0,0,0,false,0⟩
def told (ok:Bool):cY:=⟨true,⟨0,ok,0⟩,0,0,0,false,0⟩
def Pos.link (p:Pos) (next:Int):cY:=⟨false,⟨0,true,0⟩,p.pred,p.pw,next,(ao p.pw).mark,0⟩
def Pos.mark (p:Pos):cY:=⟨false,⟨0,true,0⟩,p.curr,p.cw,(ao p.cw).next,true,0⟩
def Pos.found (p:Pos) (t:bl):Bool:=decide (p.curr≠0) && decide ((ao p.cw).key=t.key)
def Pos.take (p:Pos) (t:bl):cY:=
 if p.curr=0 then told false
 else if t.pops then { p.link (ao p.cw).next with pops:=p.curr,res:=⟨0,true,(ao p.cw).key⟩ }
 else { p.mark with res:=⟨0,true,(ao p.cw).key⟩ }
def au (t:bl) (p:Pos) (spare:Int):cY:=
 if t.kind=4∨(t.kind=1∧p.found t=false) then p.link spare
 else if t.kind=2∧p.found t=true then p.mark
 else if t.kind=5 then p.take t
 else told (decide (t.kind=3) && p.found t)
def cY.claimed (p:cY):Bool:= !p.now && decide ((ao p.old).claim≠0)
def cY.word (p:cY):Int:=if p.now then 0 else dS ((ao p.old).claimed 0 p.next p.mark).free
def cY.desc (p:cY) (aJ:Int):Int:=if p.now then 0 else cv ⟨aJ,p.addr,(ao p.old).ver,p.next,p.mark,2,p.res.val⟩
structure bt where
 popped:Int
 gave:Int
 u:Int
 task:bl
 aJ:Int
 at_:Int
 found:Int
 word:Int
def bt.new (u:Int) (t:bl) (aJ:Int):bt:=⟨0,0,u,t,aJ,0,0,0⟩
def bt.load (x:bt) (v:Int):Bool×bt:=
 if (getD' v).aJ≠x.aJ then (true,{ x with found:=v })
 else if (getD' v).status=2 then (false,{ x with found:=v,at_:=1 })
 else if (getD' v).status=3 then (false,{ x with found:=v,at_:=5 })
 else if (getD' v).status=4 then (false,{ x with found:=v,at_:=8 })
 else (true,{ x with found:=v })
def bt.look (x:bt) (v without with_ other:Int):bt:=
 { x with word:=v,at_:=if (ao v).ver=(getD' x.found).ver∧(ao v).claim=0 then without else if (ao v).ver=(getD' x.found).ver∧(ao v).claim=x.u+1 then with_ else other }
def bz (M:ML) (m:Mm) (x:bt):Bool×Mm×bt:=
 let d:=getD' x.found
 let w:=ao x.word
 if x.at_=0 then ((x.load (ld M m (M.L.desc x.u))).1,m,(x.load (ld M m (M.L.desc x.u))).2)
 else if x.at_=1 then (false,m,x.look (ld M m d.addr) 2 3 4)
 else if x.at_=2 then (true,cas M m d.addr x.word (dS (w.claimed x.u d.next d.mark)),if bA M m d.addr x.word && x.task.pops then { x with popped:=w.next } else x)
 else if x.at_=3 then (true,cas M m (M.L.desc x.u) x.found (cv (d.with_ 3)),x)
 else if x.at_=4 then (true,cas M m (M.L.desc x.u) x.found (cv (d.with_ 4)),x)
 else if x.at_=5 then (false,m,x.look (ld M m d.addr) 7 6 7)
 else if x.at_=6 then (false,cas M m d.addr x.word (dS w.free),{ x with at_:=7 })
 else if x.at_=7 then (true,cas M m (M.L.desc x.u) x.found (cv (d.ended 0 true d.val)),x)
 else if x.at_=8 then (!bA M m (M.L.desc x.u) x.found || (!x.task.links || !M.L.node d.next),cas M m (M.L.desc x.u) x.found (cv d.cp),{ x with at_:=9 })
 else (true,add M m (M.L.life d.next) 1,{ x with gave:=d.next })
structure bq where
 res:lQ
 failed:Bool
 tries:Int
 task:bl
 most:Int
 at_:Int
 plan:cY
 find:aB
 cl:fo
 az:kP
def bq.hZ (L:Ly) (me:Int) (f:bq):bq:={ f with at_:=0,find:= .new L me f.task.head f.task.kO (f.most - f.tries) }
def bq.new (L:Ly) (me:Int) (t:bl) (most:Int):bq:=bq.hZ L me ⟨⟨0,false,0⟩,false,0,t,most,0,.zero,.new L 0 0 0 0,.new 0,.new 0 0⟩
def bq.over (f:bq) (n:Int):Bool:=decide (f.most<f.tries+n)
def bq.aR (f:bq) (n:Int):bq:={ f with tries:=f.tries+n,failed:=f.over n }
def bq.again (L:Ly) (me:Int) (f:bq):Bool×bq:=if f.over 1 then (true,f.aR 1) else (false,(f.aR 1).hZ L me)
def bq.sought (t:cg) (f:bq):Bool×cg×bq:=
 let t':=t.retire f.find.aO
 if f.over f.find.tries then (true,t',f.aR f.find.tries)
 else
  let p:=au f.task f.find.pos t.spare
  let g:bq:={ f.aR f.find.tries with plan:=p }
  if p.now then (true,t',{ g with res:=p.res })
  else if p.claimed then (false,t',{ g with at_:=1,cl:= .new p.addr })
  else if f.task.links then (false,t',{ g with at_:=2,az:= .new f.task.key f.find.pos.curr })
  else (false,t',{ g with at_:=3 })
def cg.did (t:cg) (k:bl) (p:cY):cg:=
 let t':cg:=if k.links then { t with spare:=0 } else t
 if p.pops≠0 then t'.retire [p.pops] else t'
def aH (M:ML) (me:Int) (m:Mm) (t:cg) (f:bq):Bool×Mm×cg×bq:=
 if f.at_=0 then
  if f.task.links && decide (t.spare=0) then (true,m,t,{ f with failed:=true })
  else
   let r:=aw M m f.find
   let g:bq:={ f with find:=r.2.2 }
   if r.1 then ((g.sought t).1,r.2.1,(g.sought t).2.1,(g.sought t).2.2) else (false,r.2.1,t,g)
 else if f.at_=1 then
  let r:=a9 M m f.cl
  let g:bq:={ f with cl:=r.2.2 }
  if r.1 then ((g.again M.L me).1,r.2.1,t,(g.again M.L me).2) else (false,r.2.1,t,g)
 else if f.at_=2 then
  let r:=ch M m t f.az
  (false,r.2.1,t,{ f with az:=r.2.2,at_:=if r.1 then 3 else 2 })
 else if bA M m f.plan.addr f.plan.old then (true,cas M m f.plan.addr f.plan.old f.plan.word,t.did f.task f.plan,{ f with res:=f.plan.res })
 else ((f.again M.L me).1,m,t,(f.again M.L me).2)
structure aM where
 u:Int
 no:Int
 rounds:Int
 limit:Int
 at_:Int
 found:Int
 task:bl
 plan:cY
 exec:bt
 bm:jL
 find:aB
 cl:fo
 az:kP
def aM.new (L:Ly) (u no limit:Int):aM:=⟨u,no,0,limit,0,0,.zero,.zero,.new 0 .zero 0,.new,.new L 0 0 0 0,.new 0,.new 0 0⟩
def aM.search (L:Ly) (me:Int) (h:aM):aM:={ h with at_:=5,find:= .new L me h.task.head h.task.kO h.limit }
def aM.begin_ (L:Ly) (me:Int) (t:cg) (h:aM) (x:Int):Bool×aM:=
 if gb x=false then (true,{ h with task:= .zero })
 else
  let g:aM:={ h with task:=eN x }
  if (getD' h.found).status≠1 then (false,{ g with at_:=3,exec:= .new h.u (eN x) (getD' h.found).aJ })
  else if (eN x).links && decide (t.spare=0) then (false,{ g with at_:=4,bm:= .new })
  else (false,g.search L me)
def eO:cY:=⟨true,⟨4,false,0⟩,0,0,0,false,0⟩
def aM.sought (t:cg) (h:aM):cg×aM:=
 let t':=t.retire h.find.aO
 let p:=au h.task h.find.pos t.spare
 let g:aM:={ h with plan:=p }
 if h.find.ab then (t',{ g with at_:=0 })
 else if p.now then (t',{ g with at_:=6 })
 else if p.claimed then (t',{ g with at_:=7,cl:= .new p.addr })
 else if h.task.links then (t',{ g with at_:=8,az:= .new h.task.key h.find.pos.curr })
 else (t',{ g with at_:=9 })
def ah (M:ML) (me:Int) (m:Mm) (t:cg) (h:aM):Bool×Mm×cg×aM:=
 let d:=getD' h.found
 if h.at_=0 then (!(getD' (ld M m (M.L.desc h.u))).pend,m,t,{ h with found:=ld M m (M.L.desc h.u),rounds:=h.rounds+1,at_:=1 })
 else if h.at_=1 then (decide (ld M m (M.L.ticket h.u)≠h.no),m,t,{ h with at_:=2 })
 else if h.at_=2 then ((h.begin_ M.L me t (ld M m (M.L.task h.u))).1,m,t,(h.begin_ M.L me t (ld M m (M.L.task h.u))).2)
 else if h.at_=3 then
  let r:=bz M m h.exec
  (false,r.2.1,if r.1∧r.2.2.popped≠0 then t.retire [r.2.2.popped] else t,{ h with exec:=r.2.2,at_:=if r.1 then 0 else 3 })
 else if h.at_=4 then
  let r:=aK M me m t h.bm
  let g:aM:={ h with bm:=r.2.2.2 }
  (false,r.2.1,r.2.2.1,if r.1=false then g else if r.2.2.2.short then { g with at_:=6,plan:=eO } else g.search M.L me)
 else if h.at_=5 then
  let r:=aw M m h.find
  let g:aM:={ h with find:=r.2.2 }
  if r.1 then (false,r.2.1,(g.sought t).1,(g.sought t).2) else (false,r.2.1,t,g)
 else if h.at_=6 then (false,cas M m (M.L.desc h.u) h.found (cv (d.ended h.plan.res.code h.plan.res.ok h.plan.res.val)),t,{ h with at_:=0 })
 else if h.at_=7 then
  let r:=a9 M m h.cl
  (false,r.2.1,t,{ h with cl:=r.2.2,at_:=if r.1 then 0 else 7 })
 else if h.at_=8 then
  let r:=ch M m t h.az
  (false,r.2.1,t,{ h with az:=r.2.2,at_:=if r.1 then 9 else 8 })
 else (false,cas M m (M.L.desc h.u) h.found (h.plan.desc d.aJ),if bA M m (M.L.desc h.u) h.found && h.task.links then { t with spare:=0 } else t,{ h with at_:=0 })
structure lz where
 no:Int
 at_:Int
 bits:Int
 found:Int
def lz.new (t:bl):lz:=⟨0,0,t.num,0⟩
def aZ (M:ML) (me:Int) (m:Mm) (a:lz):Bool×Mm×lz:=
 if a.at_=0 then (false,st M m (M.L.task me) a.bits,{ a with at_:=1 })
 else if a.at_=1 then (false,add M m M.L.counter 1,{ a with no:=(ld M m M.L.counter+1) % 18446744073709551616,at_:=2 })
 else if a.at_=2 then (false,st M m (M.L.ticket me) a.no,{ a with at_:=3 })
 else if a.at_=3 then (false,m,{ a with found:=ld M m (M.L.desc me),at_:=4 })
 else (true,st M m (M.L.desc me) (cv (getD' a.found).cp),{ a with at_:=5 })
structure oT where
 u:Int
 no:Int
 at_:Int
 ticket:Bool
def oT.new:oT:=⟨-1,0,0,false⟩
def ahead (n1 u1 n2 u2:Int):Bool:=decide (n1<n2∨(n1=n2∧u1<u2))
def cB (M:ML) (m:Mm) (h:oT):Bool×Mm×oT:=
 if h.ticket=false then
  if (getD' (ld M m (M.L.desc h.at_))).pend then (false,m,{ h with ticket:=true })
  else (decide (M.L.th≤h.at_+1),m,{ h with at_:=h.at_+1,ticket:=false })
 else
  let n:=ld M m (M.L.ticket h.at_)
  let better:=decide (h.u<0) || ahead n h.at_ h.no h.u
  (decide (M.L.th≤h.at_+1),m,⟨if better then h.at_ else h.u,if better then n else h.no,h.at_+1,false⟩)
structure aI where
 res:lQ
 slow:Bool
 task:bl
 limit:Int
 at_:Int
 head:oT
 help:aM
 bm:jL
 fast:bq
 ann:lz
 find:aB
 drop:DO
 sweep:qV
def aI.new (L:Ly) (t:bl) (limit:Int):aI:=⟨⟨0,false,0⟩,false,t,limit,0,.new,.new L 0 0 0,.new,.new L 0 .zero 0,⟨0,0,0,0⟩,.new L 0 0 0 0,⟨0,0⟩,none⟩
def aI.leave (me:Int) (d:aI):aI:={ d with at_:=8,drop:=⟨me,0⟩ }
def aI.aR (L:Ly) (me:Int) (d:aI):aI:={ d with at_:=3,fast:= .new L me d.task d.limit }
def aI.want (L:Ly) (me:Int) (t:cg) (d:aI):aI:=if d.task.links && decide (t.spare=0) then { d with at_:=2,bm:= .new } else d.aR L me
def aI.looked (L:Ly) (me:Int) (t:cg) (d:aI):aI:=if d.head.u<0 then d.want L me t else { d with at_:=1,help:= .new L d.head.u d.head.no d.limit }
def aI.told (L:Ly) (me:Int) (d:aI) (r:lQ):aI:=
 let g:aI:={ d with res:=r }
 if r.ok=false∨d.task.marks=false then g.leave me else { g with at_:=7,find:= .new L me d.task.head d.task.kO d.limit }
def aI.tried (L:Ly) (me:Int) (d:aI):aI:=if d.fast.failed=false then d.told L me d.fast.res else { d with slow:=true,at_:=4,ann:= .new d.task }
def aI.ensured (L:Ly) (me:Int) (d:aI):aI:=if d.bm.short then ({ d with res:=⟨4,false,0⟩ }:aI).leave me else d.aR L me
def uM (L:Ly) (t:cg):Bool:=decide (4*L.th≤(t.ret.length:Int))
def al (M:ML) (me:Int) (m:Mm) (t:cg) (d:aI):Bool×Mm×cg×aI:=
 if d.at_=0 then
  let r:=cB M m d.head
  let g:aI:={ d with head:=r.2.2 }
  (false,r.2.1,t,if r.1 then g.looked M.L me t else g)
 else if d.at_=1 then
  let r:=ah M me m t d.help
  let g:aI:={ d with help:=r.2.2.2 }
  (false,r.2.1,r.2.2.1,if r.1 then g.want M.L me r.2.2.1 else g)
 else if d.at_=2 then
  let r:=aK M me m t d.bm
  let g:aI:={ d with bm:=r.2.2.2 }
  (false,r.2.1,r.2.2.1,if r.1 then g.ensured M.L me else g)
 else if d.at_=3 then
  let r:=aH M me m t d.fast
  let g:aI:={ d with fast:=r.2.2.2 }
  (false,r.2.1,r.2.2.1,if r.1 then g.tried M.L me else g)
 else if d.at_=4 then
  let r:=aZ M me m d.ann
  let g:aI:={ d with ann:=r.2.2 }
  (false,r.2.1,t,if r.1 then { g with at_:=5,help:= .new M.L me r.2.2.no d.limit } else g)
 else if d.at_=5 then
  let r:=ah M me m t d.help
  let g:aI:={ d with help:=r.2.2.2 }
  (false,r.2.1,r.2.2.1,if r.1 then { g with at_:=6 } else g)
 else if d.at_=6 then (false,m,t,d.told M.L me (getD' (ld M m (M.L.desc me))).res)
 else if d.at_=7 then
  let r:=aw M m d.find
  let g:aI:={ d with find:=r.2.2 }
  if r.1 then (false,r.2.1,t.retire r.2.2.aO,g.leave me) else (false,r.2.1,t,g)
 else if d.at_=8 then
  let r:=ei M m d.drop
  let g:aI:={ d with drop:=r.2.2 }
  if r.1 then (!uM M.L t,r.2.1,t,{ g with at_:=9,sweep:=none }) else (false,r.2.1,t,g)
 else
  let r:=a7 M m t d.sweep
  (r.1,r.2.1,r.2.2.1,{ d with sweep:=r.2.2.2 })
def DS (m:Mm):Prop:=∀ i,0≤m i∧m i<18446744073709551616
variable {M:ML} {m:Mm}
theorem oB (h:DS m) (a:Int):0≤ld M m a∧ld M m a<18446744073709551616:=by
 unfold ld
 split
 ·exact h _
 ·omega
theorem cL (m:Mm) {a:Int} (x:Int) (h:0≤a∧a<M.L.size):ld M (st M m a x) a=x:=by
 unfold ld st
 rw[if_pos h,if_pos h,upd_same]
theorem ak (m:Mm) {a b:Int} (x:Int) (h:a≠b):ld M (st M m a x) b=ld M m b:=by
 unfold ld st
 split
 ·split
  ·rw[gx]
   intro e
   omega
  ·rfl
 ·rfl
theorem cO {a old:Int} (h:bA M m a old=true):ld M m a=old:=by
 unfold bA at h
 simp only[Bool.and_eq_true,decide_eq_true_eq] at h
 unfold ld
 rw[if_pos h.1];exact h.2
theorem cZ {a old:Int} (x:Int) (h:bA M m a old=true):cas M m a old x=st M m a x:=by unfold cas;rw[if_pos h]
theorem dP {a old:Int} (x:Int) (h:bA M m a old=false):cas M m a old x=m:=by unfold cas;rw[if_neg (by rw[h];decide)]
theorem uN {a old:Int} (h:0≤a∧a<M.L.size):bA M m a old=decide (ld M m a=old):=by
 unfold bA ld
 rw[if_pos h,decide_eq_true h,Bool.true_and]
theorem lA (h:DS m) (a x:Int) (hx:0≤x∧x<18446744073709551616):DS (st M m a x):=by
 intro i
 unfold st
 split
 ·unfold upd
  split
  ·exact hx
  ·exact h i
 ·exact h i
structure nZ (L:Ly) (x:Int):Prop where
 Nq:(getD' x).status≤5
 at_:2≤(getD' x).status→(getD' x).status≤4→(1≤(getD' x).addr∧(getD' x).addr≤L.nd+4)∧(getD' x).next≤L.nd
structure ix (L:Ly) (x y:Int):Prop where
 ok:nZ L y
 path:((getD' x).status=1∧(getD' y).aJ=(getD' x).aJ∧((getD' y).status=2∨((getD' y).status=5∧(getD' y).addr=0∧(getD' y).ver=0∧(getD' y).next≤1)))∨
  ((getD' x).status=2∧(getD' y=(getD' x).with_ 3∨getD' y=(getD' x).with_ 4))∨
  ((getD' x).status=3∧getD' y=⟨(getD' x).aJ,0,0,0,true,5,(getD' x).val⟩)∨
  ((getD' x).status=4∧getD' y=(getD' x).cp)
structure dY (M:ML) (m:Mm):Prop where
 rng:DS m
 word:∀ a,1≤a→a≤M.L.nd+4→(ao (ld M m a)).next≤M.L.nd
 desc:∀ v,0≤v→v<M.L.th→nZ M.L (ld M m (M.L.desc v))
structure Safe (M:ML) (m m':Mm):Prop where
 rng:DS m'
 word:∀ a,1≤a→a≤M.L.nd+4→(ao (ld M m' a)).next≤M.L.nd
 desc:∀ v,0≤v→v<M.L.th→ld M m' (M.L.desc v)=ld M m (M.L.desc v)∨ix M.L (ld M m (M.L.desc v)) (ld M m' (M.L.desc v))
 task:∀ v,0≤v→v<M.L.th→ld M m' (M.L.task v)=ld M m (M.L.task v)
 tick:∀ v,0≤v→v<M.L.th→ld M m' (M.L.ticket v)=ld M m (M.L.ticket v)
 life:∀ n,1≤n→n≤M.L.nd→ld M m' (M.L.life n)=ld M m (M.L.life n)∨ld M m' (M.L.life n)=(ld M m (M.L.life n)+1) % 18446744073709551616
theorem Safe.refl (h:dY M m):Safe M m m:=⟨h.rng,h.word,fun _ _ _=> .inl rfl,fun _ _ _=>rfl,fun _ _ _=>rfl,fun _ _ _=> .inl rfl⟩
theorem yr (h:dY M m) {a x:Int} (hx:0≤x∧x<18446744073709551616) (hw:a<1∨M.L.nd+4<a) (hl:∀ n,1≤n→n≤M.L.nd→a≠M.L.life n) (hr:∀ v,0≤v→v<M.L.th→a≠M.L.desc v∧a≠M.L.task v∧a≠M.L.ticket v):Safe M m (st M m a x):=
 ⟨lA h.rng _ _ hx,fun b h1 h2=>by rw[ak _ _ (by omega)];exact h.word b h1 h2,fun v h0 h1=> .inl (ak _ _ (hr v h0 h1).1),fun v h0 h1=>ak _ _ (hr v h0 h1).2.1,fun v h0 h1=>ak _ _ (hr v h0 h1).2.2,fun n h0 h1=> .inl (ak _ _ (hl n h0 h1))⟩
theorem mY (h:dY M m) {t n x:Int} (hx:0≤x∧x<18446744073709551616) (hL:M.L.Ok) (ht:0≤t∧t<M.L.th) (hn:0≤n∧n≤1):Safe M m (st M m (M.L.slot t n) x):=by
 have h1:=hL.th;have h2:=hL.nd
 refine yr h hx (.inr ?_) (fun k h3 h4=> ?_) (fun v h3 h4=> ?_)
 ·simp only[Ly.slot];omega
 ·simp only[Ly.slot,Ly.life];omega
 ·simp only[Ly.slot,Ly.desc,Ly.task,Ly.ticket];omega
theorem rT (h:dY M m) {a x:Int} (hx:0≤x∧x<18446744073709551616) (hL:M.L.Ok) (ha:0≤a∧a≤M.L.nd+4) (hn:(ao x).next≤M.L.nd):Safe M m (st M m a x):=by
 have h1:=hL.th;have h2:=hL.nd
 have hin:0≤a∧a<M.L.size:=by simp only[Ly.size];omega
 refine⟨lA h.rng _ _ hx,fun b h3 h4=> ?_,fun v h3 h4=> .inl (ak _ _ ?_),fun v h3 h4=>ak _ _ ?_,fun v h3 h4=>ak _ _ ?_,fun n h3 h4=> .inl (ak _ _ ?_)⟩
 ·by_cases e:a=b
  ·subst e;rw[cL _ _ hin];exact hn
  ·rw[ak _ _ e];exact h.word b h3 h4
 ·simp only[Ly.desc];omega
 ·simp only[Ly.task];omega
 ·simp only[Ly.ticket];omega
 ·simp only[Ly.life];omega
theorem gy (h:dY M m) {a old x:Int} (hx:0≤x∧x<18446744073709551616) (hL:M.L.Ok) (ha:0≤a∧a≤M.L.nd+4) (hn:(ao x).next≤M.L.nd):Safe M m (cas M m a old x):=by
 cases hq:bA M m a old with
 | false=>rw[dP _ hq];exact .refl h
 | true=>rw[cZ _ hq];exact rT h hx hL ha hn
theorem rU (h:dY M m) {n:Int} (hL:M.L.Ok) (hn:1≤n∧n≤M.L.nd):Safe M m (st M m (M.L.life n) ((ld M m (M.L.life n)+1) % 18446744073709551616)):=by
 have h1:=hL.th;have h2:=hL.nd
 have hin:0≤M.L.life n∧M.L.life n<M.L.size:=by simp only[Ly.size,Ly.life];omega
 refine⟨lA h.rng _ _ (by omega),fun b h3 h4=> ?_,fun v h3 h4=> .inl (ak _ _ ?_),fun v h3 h4=>ak _ _ ?_,fun v h3 h4=>ak _ _ ?_,fun k h3 h4=> ?_⟩
 ·rw[ak _ _ (by simp only[Ly.life];omega)];exact h.word b h3 h4
 ·simp only[Ly.desc,Ly.life];omega
 ·simp only[Ly.task,Ly.life];omega
 ·simp only[Ly.ticket,Ly.life];omega
 ·by_cases e:n=k
  ·subst e;exact .inr (cL _ _ hin)
  ·exact .inl (ak _ _ (by simp only[Ly.life];omega))
theorem uO (h:dY M m) {n:Int} (hL:M.L.Ok) (hn:1≤n∧n≤M.L.nd):Safe M m (add M m (M.L.life n) 1):=rU h hL hn
theorem zf (h:dY M m) {n f:Int} (hL:M.L.Ok) (hn:1≤n∧n≤M.L.nd):Safe M m (cas M m (M.L.life n) f ((f+1) % 18446744073709551616)):=by
 cases hq:bA M m (M.L.life n) f with
 | false=>rw[dP _ hq];exact .refl h
 | true=>
  rw[cZ _ hq]
  have:=rU h hL hn
  rw[cO hq] at this
  exact this
theorem fC (h:dY M m) {v old x:Int} (hx:0≤x∧x<18446744073709551616) (hL:M.L.Ok) (hv:0≤v∧v<M.L.th) (hp:ix M.L old x):Safe M m (cas M m (M.L.desc v) old x):=by
 have h1:=hL.th;have h2:=hL.nd
 have hin:0≤M.L.desc v∧M.L.desc v<M.L.size:=by simp only[Ly.size,Ly.desc];omega
 cases hq:bA M m (M.L.desc v) old with
 | false=>rw[dP _ hq];exact .refl h
 | true=>
  rw[cZ _ hq]
  have he:=cO hq
  refine⟨lA h.rng _ _ hx,fun b h3 h4=> ?_,fun u h3 h4=> ?_,fun u h3 h4=>ak _ _ ?_,fun u h3 h4=>ak _ _ ?_,fun k h3 h4=> .inl (ak _ _ ?_)⟩
  ·rw[ak _ _ (by simp only[Ly.desc];omega)];exact h.word b h3 h4
  ·by_cases e:v=u
   ·subst e;rw[cL _ _ hin,he];exact .inr hp
   ·exact .inl (ak _ _ (by simp only[Ly.desc];omega))
  ·simp only[Ly.desc,Ly.task];omega
  ·simp only[Ly.desc,Ly.ticket];omega
  ·simp only[Ly.desc,Ly.life];omega
theorem iy {x:Int} (s:Int) (hs:0≤s∧s<8):getD' (cv ((getD' x).with_ s))=(getD' x).with_ s:=by
 have h:=b7 x
 exact dB ⟨h.aJ,h.addr,h.ver,h.next,hs,h.val⟩
variable {L:Ly}
theorem fD {x:Int} (h:nZ L x) (h2:(getD' x).status=2) (s:Int) (hs:s=3∨s=4):ix L x (cv ((getD' x).with_ s)):=by
 have e:=iy (x:=x) s (by omega)
 have hat:=h.at_ (by omega) (by omega)
 refine⟨⟨by rw[e];simp only[Ds.with_];omega,fun _ _=>by rw[e];exact hat⟩,.inr (.inl ⟨h2,?_⟩)⟩
 rw[e]
 rcases hs with rfl | rfl
 ·exact .inl rfl
 ·exact .inr rfl
theorem kB (x:Int) (code:Int) (ok:Bool) (val:Int) (hv:0≤val∧val<1024):((getD' x).ended code ok val).Fit:=by
 have h:=b7 x
 refine⟨h.aJ,by simp[Ds.ended],by simp[Ds.ended],?_,by simp[Ds.ended],hv⟩
 simp only[Ds.ended]
 split<;>omega
theorem oU {x:Int} (h3:(getD' x).status=3):ix L x (cv ((getD' x).ended 0 true (getD' x).val)):=by
 have e:=dB (kB x 0 true (getD' x).val (b7 x).val)
 refine⟨⟨by rw[e];simp[Ds.ended],fun h4 h5=>by rw[e] at h5;simp[Ds.ended] at h5⟩,.inr (.inr (.inl ⟨h3,?_⟩))⟩
 rw[e];rfl
theorem nK {x:Int} (h1:(getD' x).status=1) (code:Int) (ok:Bool) (val:Int) (hv:0≤val∧val<1024):ix L x (cv ((getD' x).ended code ok val)):=by
 have e:=dB (kB x code ok val hv)
 refine⟨⟨by rw[e];simp[Ds.ended],fun h4 h5=>by rw[e] at h5;simp[Ds.ended] at h5⟩,.inl ⟨h1,?_,.inr ?_⟩⟩
 ·rw[e];rfl
 ·rw[e]
  refine⟨rfl,rfl,rfl,?_⟩
  simp only[Ds.ended]
  split<;>omega
theorem iz (x:Int):(getD' x).cp.Fit:=by
 have h:=(b7 x).aJ
 refine⟨?_,?_,?_,?_,?_,?_⟩<;>simp only[Ds.cp]<;>omega
theorem oV {x:Int} (h4:(getD' x).status=4):ix L x (cv (getD' x).cp):=by
 have e:=dB (iz x)
 exact⟨⟨by rw[e];simp[Ds.cp],fun h5 h6=>by rw[e] at h5;simp[Ds.cp] at h5⟩,.inr (.inr (.inr ⟨h4,by rw[e]⟩))⟩
theorem ej (d:Ds):0≤cv d∧cv d<18446744073709551616:=by have:=ig d;omega
theorem eo (w:Wd):0≤dS w∧dS w<18446744073709551616:=by have:=fR w;omega
theorem fU (L:Ly) (hL:L.Ok) (w:World):Calls Tryz.prog 173 #[L.val] w fun e w'=>e= .returned (.int .i64 (2*L.th))∧Below w.heap.size w w':=by
 obtain⟨h1,h2⟩:=hL
 obtain⟨th,nd⟩:=L
 simp only at h1 h2
 simp only[Ly.val]
 have e1:wrap64 (2*th)=2*th:=IntWalk.wrap64_in _ (by omega)
 go_enter Tryz.func173,Tryz.ntmps173
 go_wp2_with fail
 go_ret
 exact⟨fL (by first | rfl | exact e1 | omega),(Below.refl _ _).alloc (Nat.le_refl _) _⟩
theorem rV:Go.Maps.Keyed Tryz.prog 3:=Go.Maps.int_keyed Tryz.underlying3
theorem Bv (w:World):(zeroValue 4).run Tryz.prog w= .ok (.bool false) w:=by kernel_rfl
theorem s7 (x:Int) (h: -9223372036854775808≤x∧x<9223372036854775808):keyOf Tryz.prog 3 (.int .i64 x)=some (.int .i64 x):=Go.Maps.keyOf_int_mk Tryz.underlying3 (by simp only[Lit.wf];rw[decide_eq_true (show IntKind.i64.min≤x by rw[show IntKind.i64.min= -9223372036854775808 by decide];omega),decide_eq_true (show x≤IntKind.i64.max by rw[show IntKind.i64.max=9223372036854775807 by decide];omega)];rfl)
def cT (w:World) (b n:Nat) (l:List Int):Prop:=
 ∃ D:DataW Unit,w.ownsMap Tryz.prog 3 (plainElem Tryz.prog 4) b n D∧Go.Maps.IsMap D∧∀ x:Int,D.atKey (.int .i64 x) (.lit (.bool false))= .lit (.bool (l.contains x))
theorem cT.made (w:World):cT (w.alloc (.map #[] 0)) w.heap.size 0 []:=by
 refine⟨.map [],World.ownsMap_made w _ _ _,(World.ownsMap_made w Tryz.prog 3 (plainElem Tryz.prog 4)).isMap,fun x=> ?_⟩
 simp[DataW.atKey]
variable {w w':World}
theorem cT.step {b n:Nat} {l:List Int} (h:cT w b n l) (hb:Below w.heap.size w w'):cT w' b n l:=by
 obtain⟨D,h1,h2,h3⟩:=h
 have hlt:=h1.lt
 obtain⟨es,clock,h4,h5⟩:=h1
 exact⟨D,⟨es,clock,(hb.block b hlt).trans h4,h5⟩,h2,h3⟩
theorem cT.fr {b n:Nat} {l:List Int} {C:Nat→Nat} {K:Nat→Prop} {T:List (Option TypeId)} {c:Nat} (h:cT w b n l) (k:Fr C K T w w') (hC:C b=c) (hk:¬ K c∨none∉T):cT w' b n l:=by
 obtain⟨D,h1,h2,h3⟩:=h
 obtain⟨es,clock,h4,h5⟩:=h1
 exact⟨D,⟨es,clock,k.keep b _ h4 (by rw[hC];exact hk),h5⟩,h2,h3⟩
theorem cT.lt {b n:Nat} {l:List Int} (h:cT w b n l):b<w.heap.size:=by
 obtain⟨D,h1,-⟩:=h;exact h1.lt
theorem lB {P:Program} {e:TypeId} (he:P.underlying e=some .bool) {v:Value} {x:Bool} {ps:List MemPlace} (h:plainElem (H:=Unit) P e v=some (.lit (.bool x),ps)):v= .bool x:=by
 unfold plainElem at h
 rw[he] at h
 cases v<;>simp at h
 obtain⟨rfl,-⟩:=h
 rfl
theorem cT.look {b n:Nat} {l:List Int} (h:cT w b n l) (x:Int) (key:Value) (hkey:keyOf Tryz.prog 3 key=some (.int .i64 x)):
  (Instr.lookup 209 (.map (some b)) key false).run Tryz.prog w= .ok (.bool (l.contains x)) w:=by
 obtain⟨D,h1,h2,h3⟩:=h
 obtain⟨v,ps,hrun,hv⟩:=h1.lookup rV Tryz.underlying209 (Bv w) (plainElem_bool Tryz.underlying4 false) hkey
 rw[h3 x] at hv
 rw[hrun]
 rw[lB Tryz.underlying4 hv]
theorem cT.put {b n:Nat} {l:List Int} (h:cT w b n l) (hn:n<maxLen) (x:Int) (key:Value) (hkey:keyOf Tryz.prog 3 key=some (.int .i64 x)):
  ∃ w',(Instr.mapUpdate 209 (.map (some b)) key (.bool true)).run Tryz.prog w= .ok () w'∧cT w' b (n+1) (x::l)∧w.grownBy w' (some b):=by
 obtain⟨D,h1,h2,h3⟩:=h
 obtain⟨w',hrun,h4,h5⟩:=h1.update rV Tryz.underlying209 hn hkey (plainElem_bool Tryz.underlying4 true)
 refine⟨w',hrun,⟨_,h4,h4.isMap,fun y=> ?_⟩,h5⟩
 by_cases he:y=x
 ·subst he
  rw[Go.Maps.atKey_put_same h2 (by simp[WideAt.IsKeyLit])]
  simp
 ·rw[Go.Maps.atKey_put_other (fun e=>he (by injection e)),h3 y]
  have:(x::l).contains y=l.contains y:=by simp[he]
  rw[this]
variable {P:Program} {ops:Array Oper} {Q:Exit→Act→World→Prop}
theorem qW {id:Nat} {l:List Oper} {a:Act} {w:World} (S:World→Prop) (n:Nat) (ls:List Nat) (i j:Nat) (is:List Nat) (hm:P.follows .mixedOrders=true)
  (hB:(Region.noSelect l.toArray && Region.chainB .any l.toArray n && decide (ls.length+(is.length+2)=l.length) &&
   gR .any l.toArray n (df .any l.toArray n [n]) ls (Array.replicate l.toArray.size false) &&
   decide (Region.ready .any l.toArray (bX ls (Array.replicate l.toArray.size false))=[i,j]) &&
   Dn .any l.toArray n (df .any l.toArray n [n]) [([],j)] ((bX ls (Array.replicate l.toArray.size false)).setIfInBounds i true) &&
   gi .any l.toArray is (fS [([],j)] ((bX ls (Array.replicate l.toArray.size false)).setIfInBounds i true)) &&
   Dn .any l.toArray n (df .any l.toArray n [n]) [([],i)] ((bX ls (Array.replicate l.toArray.size false)).setIfInBounds j true) &&
   gi .any l.toArray is (fS [([],i)] ((bX ls (Array.replicate l.toArray.size false)).setIfInBounds j true)))=true)
  (hS:S w.drew)
  (h:wpQuiet P l.toArray S (fun a'=>
   wpOp P l.toArray (NoPanic Q) i (fun a'' w''=>S w''∧ja P l.toArray (NoPanic Q) S (fun a w=>dh P l.toArray (NoPanic Q) S n is a w) [([],j)] a'' w'') a' w.drew∧
   wpOp P l.toArray (NoPanic Q) j (fun a'' w''=>S w''∧ja P l.toArray (NoPanic Q) S (fun a w=>dh P l.toArray (NoPanic Q) S n is a w) [([],i)] a'' w'') a' w.drew) (ay l.toArray ls) a):(Code.region id l.toArray true).wp P Q a w:=by
 refine wp_region_noPanic ?_
 simp only[Bool.and_eq_true,decide_eq_true_eq] at hB
 obtain⟨⟨⟨⟨⟨⟨⟨⟨h1,h2⟩,h3⟩,h4⟩,h5⟩,h6⟩,h7⟩,h8⟩,h9⟩:=hB
 refine wp_region_any hm (gA (S:=S) (n:=n) _ _ _ _ ?_)
 have hQ:∀ c a d v w,NoPanic Q (.panic c) (Act.put a d v) w→NoPanic Q (.panic c) a w:=fun _ _ _ _ _ h=>h
 have inv:=hM.start .any l.toArray
 have key:∀ i j:Nat,i∈Region.ready .any l.toArray (bX ls (Array.replicate l.toArray.size false))→
   Dn .any l.toArray n (df .any l.toArray n [n]) [([],j)] ((bX ls (Array.replicate l.toArray.size false)).setIfInBounds i true)=true→
   gi .any l.toArray is (fS [([],j)] ((bX ls (Array.replicate l.toArray.size false)).setIfInBounds i true))=true→
   hM .any l.toArray (bX ls (Array.replicate l.toArray.size false))→∀ a':Act,
   wpOp P l.toArray (NoPanic Q) i (fun a'' w''=>S w''∧ja P l.toArray (NoPanic Q) S (fun a w=>dh P l.toArray (NoPanic Q) S n is a w) [([],j)] a'' w'') a' w.drew→
   wpOp P l.toArray (NoPanic Q) i (fun a'' w''=>(need l.toArray n i=true→S w'')∧ft P .any l.toArray (NoPanic Q) S n (is.length+1) ((bX ls (Array.replicate l.toArray.size false)).setIfInBounds i true) a'' w'') a' w.drew:=by
  intro i j hi hp ht hv a' h
  refine wpOp_mono (fun a'' w'' h''=>⟨fun _=>h''.1,?_⟩) h
  have h2':=ky (ops:=l.toArray) (Q:=NoPanic Q) (S:=S) h1 h2 hQ [] is [([],j)] _ a'' w'' (hv.set hi) hp (by rfl) (by simpa [bX] using ht) h''.1 h''.2
  have e:ik [([],j)]+([]:List Nat).length+is.length=is.length+1:=by simp[ik];omega
  rw[e] at h2'
  exact h2'
 have fin:=gk (P:=P) (ops:=l.toArray) (Q:=NoPanic Q) (S:=S) h1 h2 hQ (is.length+2) ls _ a w.drew inv h4 hS ?_
 ·rw[h3] at fin
  simpa using fin
 ·refine fh (fun a' h' hv=> ?_) _ _ h
  refine⟨fun hr=>(by rw[h5] at hr;cases hr),fun k hk=> ?_⟩
  have hk':k=i∨k=j:=by rw[h5] at hk;simpa using hk
  rcases hk' with rfl | rfl
  ·exact key k j hk h6 h7 hv a' h'.1
  ·exact key k i hk h8 h9 hv a' h'.2
structure DT (L:Ly) (n:Nat) (xs:List Value) (w:World) (e:Ending) (w':World):Prop where
 out:∃ (b mb:Nat) (v:Value),e= .returned (.pointer (some ⟨b,0,none⟩))∧w.heap.size≤b∧w.heap.size≤mb∧b≠mb∧v.ownBlock≠some b∧
  bo w' b 212 #[.int .i64 L.th,.int .i64 L.nd,.slice none 0 0,.slice none 0 0,v,.map (some mb),.int .i64 0,.pointer none]∧
  w'.ownsRow w.heap.size 3 1 v n xs∧cT w' mb 0 []
 below:Below w.heap.size w w'
theorem zg (L:Ly) (A:Option Addr) (n c B:Nat) (xs:List Value) (w:World) (hr:Sl w B 1 A n xs) (hB:B≤w.heap.size) (h1:∀ u∈xs,u.oneCell'=true) (hn:n≤100000) (hnil:A=none→n=0∧c=0):
  Calls Tryz.prog 136 #[L.val,.slice A n c] w (DT L n xs w):=by
 have HC:=Lib.hid (fun (W:World) (k:Below w.heap.size w W)=>rR A n c B xs W (hr.step hB k) (Nat.le_trans hB k.size) h1 (by omega) hnil)
 clear hr h1 hnil
 obtain⟨th,nd⟩:=L
 simp only[Ly.val]
 go_enter Tryz.func136,Tryz.ntmps136
 go_wp2_with fail
 have hx:=bo.new w 31 #[.int .i64 th,.int .i64 nd]
 have hb0:Below w.heap.size w (w.alloc (.cells #[.int .i64 th,.int .i64 nd] 31)):=(Below.refl _ _).alloc (Nat.le_refl _) _
 generalize hW:(w.alloc (.cells #[.int .i64 th,.int .i64 nd] 31))=w1 at *
 have hs1:=hb0.size
 have q:=Later.cells (B:=w1.heap.size) hx hx.lt
 refine qW (fun w'=>∃ q:Later w1.heap.size w1,w'=q.val) 4 [1,0] 2 3 [4,5,6] (by kernel_rfl) (by kernel_rfl) (Later.bW (Below.refl _ _).drew) ?_
 simp only[ay,List.map_cons,List.map_nil,List.getD_cons_zero,List.getD_cons_succ]
 repeat(go_big_quiet_step (fail))
 refine wpQuiet_nil ?_
 have hmk:∀ W:World,(Instr.makeMap 209 none).run Tryz.prog W= .ok (.map (some W.heap.size)) (W.alloc (.map #[] 0)):=fun W=>rfl
 have DU:Below w1.heap.size w1 (w1.alloc (.map #[] 0)).drew:=((Below.refl _ _).alloc (Nat.le_refl _) _).drew
 refine⟨?_,?_⟩
 ·skip
  refine bG rfl (fun K' hK'=> ?_)
  go_simp
  ((with_reducible refine(HC.out _ hb0.drew).mono ?_);rintro e w2 ⟨v,rfl,hown,hb2⟩)
  obtain⟨A7,c7,rfl,Ii,-,-⟩:=bT hown
  refine hK' _ _ (Later.bW ((Below.refl w1.heap.size w1).drew.trans hb2)) ?_
  clear hK' K'
  refine ai ?_
  simp only[ay,List.map_nil]
  repeat(go_big_quiet_step (fail))
  refine wpQuiet_nil ?_
  refine bG rfl (fun K' hK'=> ?_)
  go_simp
  refine hK' _ _ (Later.bW (((Below.refl w1.heap.size w1).drew.trans hb2).alloc hb2.size _)) ?_
  clear hK' K'
  refine af ?_
  refine ae _ _ _ (by kernel_rfl) ?_
  try simp only[ay,List.map_cons,List.map_nil,List.getD_cons_zero,List.getD_cons_succ]
  clear q hW
  go_wp2_with fail
  refine NoPanic.normal ?_
  go_wp2_with fail
  have hs2:=hb2.size
  have hs3:w1.heap.size≤w2.heap.size:=hs2
  refine bodyPost_ret (v:= .pointer (some ⟨w2.heap.size+1,0,none⟩)) (by simp[results,Tryz.results136,go_sem]) rfl ⟨⟨w2.heap.size+1,w2.heap.size,.slice A7 n c7,rfl,by omega,by omega,by omega,?_,bo.newAt _ _ _ (by simp),?_,?_⟩,?_⟩
  ·intro h;obtain⟨-,cs,hk⟩:=bM hown _ h;have:=hk.lt;omega
  ·exact eL (dy hown (((Below.refl _ _).alloc (Nat.le_refl _) _).alloc (by simp) _)) hs1
  ·exact(cT.made w2).step ((Below.refl _ _).alloc (Nat.le_refl _) _)
  ·exact((hb0.drew.trans (hb2.mono hs1)).alloc (by omega) _).alloc (by simp;omega) _
 ·skip
  refine bG rfl (fun K' hK'=> ?_)
  go_simp
  refine hK' _ _ (Later.bW DU) ?_
  clear hK' K'
  refine ai ?_
  simp only[ay,List.map_nil]
  repeat(go_big_quiet_step (fail))
  refine wpQuiet_nil ?_
  refine bG rfl (fun K' hK'=> ?_)
  go_simp
  ((with_reducible refine(HC.out _ (hb0.alloc hs1 (.map #[] 0)).drew).mono ?_);rintro e w2 ⟨v,rfl,hown,hb2⟩)
  obtain⟨A7,c7,rfl,Ii,-,-⟩:=bT hown
  refine hK' _ _ (Later.bW (DU.trans (hb2.mono DU.size))) ?_
  clear hK' K'
  refine af ?_
  refine ae _ _ _ (by kernel_rfl) ?_
  try simp only[ay,List.map_cons,List.map_nil,List.getD_cons_zero,List.getD_cons_succ]
  clear q hW
  go_wp2_with fail
  refine NoPanic.normal ?_
  go_wp2_with fail
  have hs2:=hb2.size
  have hs3:w1.heap.size+1≤w2.heap.size:=by simpa using hs2
  have hbB:Below w.heap.size w w2:=(hb0.alloc hs1 (.map #[] 0)).drew.trans (hb2.mono (hb0.alloc hs1 (.map #[] 0)).drew.size)
  refine bodyPost_ret (v:= .pointer (some ⟨w2.heap.size,0,none⟩)) (by simp[results,Tryz.results136,go_sem]) rfl ⟨⟨w2.heap.size,w1.heap.size,.slice A7 n c7,rfl,by omega,by omega,by omega,?_,bo.newAt _ _ _ rfl,?_,?_⟩,?_⟩
  ·intro h;obtain⟨-,cs,hk⟩:=bM hown _ h;have:=hk.lt;omega
  ·exact eL (dy hown ((Below.refl _ _).alloc (Nat.le_refl _) _)) (hb0.alloc hs1 (.map #[] 0)).drew.size
  ·exact((cT.made w1).step ((Below.refl _ _).drew.trans hb2)).step ((Below.refl _ _).alloc (Nat.le_refl _) _)
  ·exact((hb0.drew.alloc hb0.drew.size _).trans (hb2.mono (by simp;omega))).alloc (by omega) _
def jB (seen l:List Int):List Int:=l.filter (fun x=>seen.contains x)
def gE (seen l:List Int):List Int:=l.filter (fun x=> !seen.contains x)
theorem rW (seen l:List Int):(jB seen l).length≤l.length:=List.length_filter_le ..
theorem mZ (seen l:List Int):(gE seen l).length≤l.length:=List.length_filter_le ..
theorem zh {seen:List Int} {x:Int} (l:List Int) (h:seen.contains x=true):jB seen (l++[x])=jB seen l++[x]:=by
 unfold jB;rw[List.filter_append,List.filter_cons_of_pos (by exact h)];rfl
theorem Bw {seen:List Int} {x:Int} (l:List Int) (h:seen.contains x=false):jB seen (l++[x])=jB seen l:=by
 unfold jB;rw[List.filter_append,List.filter_cons_of_neg (by rw[h];decide)];simp
theorem Bx {seen:List Int} {x:Int} (l:List Int) (h:seen.contains x=false):gE seen (l++[x])=gE seen l++[x]:=by
 unfold gE;rw[List.filter_append,List.filter_cons_of_pos (by rw[h];decide)];rfl
theorem zi {seen:List Int} {x:Int} (l:List Int) (h:seen.contains x=true):gE seen (l++[x])=gE seen l:=by
 unfold gE;rw[List.filter_append,List.filter_cons_of_neg (by rw[h];decide)];simp
theorem kC {base:Nat} {e:TypeId} {size n:Nat} {v:Value} {xs:List Value} (h:w.ownsRow base e size v n xs) (o:Obj):(w.alloc o).ownsRow base e size v n xs:=dy h ((Below.refl _ _).alloc (Nat.le_refl _) o)
theorem rX {base:Nat} {e:TypeId} {size n:Nat} {v:Value} {xs:List Value} {row:Option Nat} (h:w.ownsRow base e size v n xs) (hg:w.grownBy w' row) (hr:∀ g,v.ownBlock=some g→row≠some g):w'.ownsRow base e size v n xs:=by
 obtain⟨h1,h2⟩:=h
 refine⟨h1,?_⟩
 rcases h2 with h2 | ⟨g,cap,cur,rfl,hbg,hgl,rest⟩
 ·exact .inl h2
 ·exact .inr ⟨g,cap,cur,rfl,hbg,(hg.block g (lt_size hgl) (fun e=>hr g rfl e.symm)).trans hgl,rest⟩
variable {C:Nat→Nat} {K:Nat→Prop}
theorem Fr.rY {L:List (Option TypeId)} {a w w':World} {row:Option Nat} (h:Fr C K L a w) (hg:w.grownBy w' row) (hr:∀ g,row=some g→a.heap.size≤g):Fr C K L a w':=
 ⟨hg.os.trans h.os,hg.tape.trans h.tape,hg.output.trans h.output,Nat.le_trans h.size hg.size,fun g o ho hk=>by
  have h1:=h.keep g o ho hk
  rw[hg.block g (lt_size h1) (fun e=>by have:=hr g e.symm;have:=lt_size ho;omega)]
  exact h1⟩
structure s8 (w:World) (C:Nat→Nat) (c b:Nat) (L:Ly) (l seen:List Int) (at_:Int):Prop where
 ex:∃ (An:Option Addr) (n cn mb k0:Nat),l.length=n∧SB w C c b 212 #[.int .i64 L.th,.int .i64 L.nd,.slice none 0 0,.slice none 0 0,.slice An n cn,.map (some mb),.int .i64 at_,.pointer none]∧Sr w C c 3 1 An n (cJ l)∧n≤cn∧cT w mb k0 seen∧C mb=c∧(k0:Int)≤at_
structure oW (w:World) (C:Nat→Nat) (c s b:Nat) (L:Ly) (at_:Int) (kept freed give:List Int):Prop where
 ex:∃ (Ak Af:Option Addr) (nk nf ck cf bg:Nat) (vn vm:Value),kept.length=nk∧freed.length=nf∧
  SB w C c b 212 #[.int .i64 L.th,.int .i64 L.nd,.slice Ak nk ck,.slice Af nf cf,vn,vm,.int .i64 at_,.pointer (some ⟨bg,0,none⟩)]∧
  Row w C s 3 1 (.slice Ak nk ck) nk (cJ kept)∧l6 w C c bg L give
structure Iu (C:Nat→Nat) (c s b:Nat) (L:Ly) (l seen:List Int) (at_:Int) (w:World) (e:Ending) (w':World):Prop where
 ret:e= .returned (.bool (gE seen l).isEmpty)
 own:∃ C',aF w.heap.size C C'∧oW w' C' c s b L at_ (jB seen l) (gE seen l) (gE seen l)
 fr:Fr C (K0 c) [some 212] w w'
structure Fi (C:Nat→Nat) (c b mb N:Nat) (L:Ly) (An:Option Addr) (n cn:Nat) (at_:Int) (lk lf:List Int) (w wr:World):Prop where
 ex:∃ (Ak Af:Option Addr) (ck cf nk nf:Nat),lk.length=nk∧lf.length=nf∧bo wr b 212 #[.int .i64 L.th,.int .i64 L.nd,.slice Ak nk ck,.slice Af nf cf,.slice An n cn,.map (some mb),.int .i64 at_,.pointer none]∧
  wr.ownsRow N 3 1 (.slice Ak nk ck) nk (cJ lk)∧wr.ownsRow N 3 1 (.slice Af nf cf) nf (cJ lf)∧
  (∀ g,Value.ownBlock (.slice Ak nk ck)=some g→Value.ownBlock (.slice Af nf cf)≠some g)
 fr:Fr C (K0 c) [some 212] w wr
 size:N≤wr.heap.size
theorem wY {c s b mb k0:Nat} {L:Ly} {l seen:List Int} {An:Option Addr} {n cn:Nat} {at_:Int} (hb:SB w C c b 212 #[.int .i64 L.th,.int .i64 L.nd,.slice none 0 0,.slice none 0 0,.slice An n cn,.map (some mb),.int .i64 at_,.pointer none]) (hn:l.length=n) (hn':n≤100000) (hsm:Small l)
  (hs:Sr w C c 3 1 An n (cJ l)) (hse:cT w mb k0 seen) (hmb:C mb=c):Calls Tryz.prog 175 #[.pointer (some ⟨b,0,none⟩)] w (Iu C c s b L l seen at_ w):=by
 obtain⟨i0,hi,hz0,hz1,hz2⟩:=info_parts iu
 have HN:=Lib.hid hn
 have m0:=Lib.hid hsm
 obtain⟨N,hNe⟩:∃ N,w.heap.size=N:=⟨_,rfl⟩
 have hc:=hb.blk.cells
 have HS:=Lib.hid hs
 have Fj:=Lib.hid hse
 have hI0:Fi C c b mb N L An n cn at_ (jB seen (l.take 0)) (gE seen (l.take 0)) w w:=⟨⟨none,none,0,0,0,0,rfl,rfl,hb.blk,World.ownsRow_nil _ _ _ _,World.ownsRow_nil _ _ _ _,by simp[Value.ownBlock]⟩,Fr.refl _ _ _ _,by omega⟩
 have HI0:=Lib.hid hI0
 have hbl:=hb.lt
 have hbC:=hb.col
 clear hn hsm hs hse hI0
 go_enter Tryz.func175,Tryz.ntmps175
 go_wp2_with fail
 go_loopw [10] (fun i wr=>∃ k:Nat,k≤n∧i= .int .i64 k∧Hid (Fi C c b mb N L An n cn at_ (jB seen (l.take k)) (gE seen (l.take k)) w wr)) (fun i _=>n - (intOf i).toNat)
 case atStart=>exact⟨0,by omega,rfl,HI0⟩
 case round=>
  obtain⟨k,hk,rfl,hI⟩:=hrel
  clear hc
  by_cases hlt:k<n
  ·have dk:decide ((k:Int)<(n:Int))=true:=by simp;omega
   obtain⟨x,hx⟩:∃ x,l[k]? =some x:=⟨_,List.getElem?_eq_getElem (by rw[HN.out];exact hlt)⟩
   have hkl:=rW seen (l.take k)
   have hfl:=mZ seen (l.take k)
   have htk:(l.take k).length≤k:=by simp;omega
   have hsn:l.take (k+1)=l.take k++[x]:=by rw[List.take_add_one,hx];rfl
   obtain⟨⟨Ak,Af,ck,cf,nk,nf,hnk,hnf,hb,hok,hof,hne⟩,hfr,J5⟩:=hI.out
   have Iv:=Lib.hid hsn
   clear hI hsn
   have Mg:=Lib.hid (HS.out.fr hfr (.inr (by decide)))
   have hcx:=Mg.out.sl.cell k (by omega)
   have hidx:=Mg.out.sl.idx (P:=Tryz.prog) (c:=cn) Tryz.underlying89 jc hlt
   simp only[cJ,List.getElem?_map,hx,Option.map_some,Nat.mul_one] at hcx hidx
   have KO:cT wr mb k0 seen:=Fj.out.fr hfr hmb (.inr (by decide))
   have hlook:(Instr.lookup 209 (.map (some mb)) (.int .i64 x) false).run Tryz.prog wr= .ok (.bool (seen.contains x)) wr:=KO.look x _ (s7 x (by have:=m0.out x (List.mem_of_getElem? hx);omega))
   obtain⟨lk,hlk⟩:∃ lk,jB seen (l.take k)=lk:=⟨_,rfl⟩
   obtain⟨lf,hlf⟩:∃ lf,gE seen (l.take k)=lf:=⟨_,rfl⟩
   rw[hlk] at hkl hok hnk
   rw[hlf] at hfl hof hnf
   have s9:=Lib.hid hlk
   have F3:=Lib.hid hlf
   have DV:=Lib.hid hnk
   have F4:=Lib.hid hnf
   have Nr:nk≤100000:=by omega
   have Iw:nf≤100000:=by omega
   clear hlk hlf hx hnk hnf hkl hfl htk
   cases hp:seen.contains x with
   | true=>
    rw[hp] at hlook
    have HP:=Lib.hid hp
    clear hp
    have own':=kC hok (.cells #[.int .i64 x] 3)
    have wZ:=kC hof (.cells #[.int .i64 x] 3)
    have hc:=hb.cells
    have hba:=hb.alloc (.cells #[.int .i64 x] 3)
    have hca:=hba.cells
    have hfa:=hba.frees
    have hoa:=bM own'
    have hne1:=own_ne own' hba (by decide)
    have hne2:=own_ne wZ hba (by decide)
    have hob:=bM wZ
    go_wp2_with (at_builtin;refine wpList_append_lies _ rfl _ _ _ rfl N 3 i0 _ 1 8 Tryz.underlying89 hi hz0 hz1 hz2 rfl (by omega) (.slice Ak nk ck) nk (cJ lk) rfl own' ⟨wr.heap.size,0,none⟩ 1 1 [.int .i64 x] rfl rfl (World.news_of_block (heap_alloc_new wr _)) (gS [x]) (by omega) (by unfold maxLen;omega) (by omega) (by simp;omega) (wr.heap.size+1) (by simp) ?_;intro g cap Dq hown2 hgrow hat hlt2;have gP:=hba.grown hgrow (by first | exact fun e=>hne1 e | exact fun e=>hne1 e.symm);have uP:=rX wZ hgrow (by first | exact fun g hg e=>hne g e hg | exact fun g hg e=>hne g hg e);have By:Fr C (K0 c) [some 212] w Dq:=(hfr.alloc (.cells #[.int .i64 x] 3)).rY hgrow (fun g hg=>by rw[hNe];exact(hoa g hg).1);have Ix:=hgrow.size;have hc12:=gP.cells;have Iy:=gP.frees)
    have Iz:(lk++[x]).length=nk+1:=by rw[List.length_append,DV.out];rfl
    have IA:(lf++[x]).length=nf+1:=by rw[List.length_append,F4.out];rfl
    refine⟨⟨k+1,by omega,by go_num,Lib.hid ?_⟩,by simp[intOf];omega⟩
    rw[Iv.out,zh _ HP.out,zi _ HP.out,s9.out,F3.out]
    have hsb:SB Dq C c b 212 _:=SB.mk gP hbC
    have uQ:=By.ar hsb (fk c) (by decide) 2 (.slice (some ⟨g,0,none⟩) (nk+1) cap)
    have hown3:Dq.ownsRow N 3 1 (.slice (some ⟨g,0,none⟩) (nk+1) cap) (nk+1) (cJ (lk++[x])):=by simpa [cJ] using hown2
    have ho1:=dO hown3 (a:=⟨b,2,none⟩) (own_ne hown3 gP (by decide)) (.slice (some ⟨g,0,none⟩) (nk+1) cap)
    have ho2:=dO uP (a:=⟨b,2,none⟩) (own_ne uP gP (by decide)) (.slice (some ⟨g,0,none⟩) (nk+1) cap)
    have hd:∀ g',g=g'→Value.ownBlock (.slice Af nf cf)≠some g':=by
     intro g' hg e
     subst hg
     rcases hat with hat | hat
     ·exact hne g (by assumption) (by assumption)
     ·obtain⟨-,cs,hk⟩:=hob g e
      have:=hk.lt
      simp at this;omega
    refine⟨⟨some ⟨g,0,none⟩,Af,cap,cf,nk+1,nf,Iz,F4.out,gP.ar 2 _,ho1,ho2,fun g' hg'=>hd g' (by injection hg')⟩,uQ,by rw[←hNe];exact uQ.size⟩
   | false=>
    rw[hp] at hlook
    have HP:=Lib.hid hp
    clear hp
    have own':=kC hof (.cells #[.int .i64 x] 3)
    have wZ:=kC hok (.cells #[.int .i64 x] 3)
    have hc:=hb.cells
    have hba:=hb.alloc (.cells #[.int .i64 x] 3)
    have hca:=hba.cells
    have hfa:=hba.frees
    have hoa:=bM own'
    have hne1:=own_ne own' hba (by decide)
    have hne2:=own_ne wZ hba (by decide)
    have hob:=bM wZ
    go_wp2_with (at_builtin;refine wpList_append_lies _ rfl _ _ _ rfl N 3 i0 _ 1 8 Tryz.underlying89 hi hz0 hz1 hz2 rfl (by omega) (.slice Af nf cf) nf (cJ lf) rfl own' ⟨wr.heap.size,0,none⟩ 1 1 [.int .i64 x] rfl rfl (World.news_of_block (heap_alloc_new wr _)) (gS [x]) (by omega) (by unfold maxLen;omega) (by omega) (by simp;omega) (wr.heap.size+1) (by simp) ?_;intro g cap Dq hown2 hgrow hat hlt2;have gP:=hba.grown hgrow (by first | exact fun e=>hne1 e | exact fun e=>hne1 e.symm);have uP:=rX wZ hgrow (by first | exact fun g hg e=>hne g e hg | exact fun g hg e=>hne g hg e);have By:Fr C (K0 c) [some 212] w Dq:=(hfr.alloc (.cells #[.int .i64 x] 3)).rY hgrow (fun g hg=>by rw[hNe];exact(hoa g hg).1);have Ix:=hgrow.size;have hc12:=gP.cells;have Iy:=gP.frees)
    have Iz:(lk++[x]).length=nk+1:=by rw[List.length_append,DV.out];rfl
    have IA:(lf++[x]).length=nf+1:=by rw[List.length_append,F4.out];rfl
    refine⟨⟨k+1,by omega,by go_num,Lib.hid ?_⟩,by simp[intOf];omega⟩
    rw[Iv.out,Bw _ HP.out,Bx _ HP.out,s9.out,F3.out]
    have hsb:SB Dq C c b 212 _:=SB.mk gP hbC
    have uQ:=By.ar hsb (fk c) (by decide) 3 (.slice (some ⟨g,0,none⟩) (nf+1) cap)
    have hown3:Dq.ownsRow N 3 1 (.slice (some ⟨g,0,none⟩) (nf+1) cap) (nf+1) (cJ (lf++[x])):=by simpa [cJ] using hown2
    have ho1:=dO hown3 (a:=⟨b,3,none⟩) (own_ne hown3 gP (by decide)) (.slice (some ⟨g,0,none⟩) (nf+1) cap)
    have ho2:=dO uP (a:=⟨b,3,none⟩) (own_ne uP gP (by decide)) (.slice (some ⟨g,0,none⟩) (nf+1) cap)
    have hd:∀ g',g=g'→Value.ownBlock (.slice Ak nk ck)≠some g':=by
     intro g' hg e
     subst hg
     rcases hat with hat | hat
     ·exact hne g (by assumption) (by assumption)
     ·obtain⟨-,cs,hk⟩:=hob g e
      have:=hk.lt
      simp at this;omega
    refine⟨⟨Ak,some ⟨g,0,none⟩,ck,cap,nk,nf+1,DV.out,IA,gP.ar 3 _,ho2,ho1,fun g' hg' e=>hd g' (by injection e) hg'⟩,uQ,by rw[←hNe];exact uQ.size⟩
  ·have dk:decide ((k:Int)<(n:Int))=false:=by simp;omega
   have hkn:k=n:=by omega
   subst hkn
   have hA:l.take k=l:=List.take_of_length_le (by rw[HN.out];exact Nat.le_refl _)
   have hkl:=rW seen l
   have hfl:=mZ seen l
   rw[HN.out] at hkl hfl
   rw[hA] at hI
   obtain⟨⟨Ak,Af,ck,cf,nk,nf,hnk,hnf,hb,hok,hof,hne⟩,hfr,J5⟩:=hI.out
   have IB:Small (gE seen l):=fun x hx=>m0.out x (List.mem_filter.1 hx).1
   obtain⟨lk,hlk⟩:∃ lk,jB seen l=lk:=⟨_,rfl⟩
   obtain⟨lf,hlf⟩:∃ lf,gE seen l=lf:=⟨_,rfl⟩
   rw[hlk] at hkl hok hnk
   rw[hlf] at hfl hof hnf IB
   have s9:=Lib.hid hlk
   have F3:=Lib.hid hlf
   have DV:=Lib.hid hnk
   have F4:=Lib.hid hnf
   have Iw:nf≤100000:=by omega
   clear hlk hlf hnk hkl hfl hI hA
   have hc:=hb.cells
   have KP:=hb.lt
   go_wp2_with fail
   clear hc
   have q:=Later.cells (B:=wr.heap.size) hb KP
   refine aD (fun w'=>∃ q:Later wr.heap.size wr,w'=q.val) 9 [] [0,1,2,3,4,5,6,7,8] [9,10,11,12] (by kernel_rfl) (by kernel_rfl) (Later.bW (Below.refl _ _).drew) ?_
   refine af ?_
   try simp only[ay,List.map_cons,List.map_nil,List.getD_cons_zero,List.getD_cons_succ]
   repeat(go_big_quiet_step (fail))
   refine wpQuiet_nil ?_
   refine ae _ _ _ (by kernel_rfl) ?_
   try simp only[ay,List.map_cons,List.map_nil,List.getD_cons_zero,List.getD_cons_succ]
   clear q
   obtain⟨C1,uk⟩:∃ C1:Nat→Nat,C1=fun g=>if g<N then C g else if Value.ownBlock (.slice Ak nk ck)=some g then s else c:=⟨_,rfl⟩
   have hag:aF N C C1:=fun g hg=>by rw[uk];exact if_pos hg
   have hrow:Row wr C1 s 3 1 (.slice Ak nk ck) nk (cJ lk):=⟨eL hok (Nat.zero_le _),fun g hg=>by
    rw[uk]
    simp only
    rw[if_neg (by have:=(bM hok g hg).1;omega),if_pos hg]⟩
   have hsb:SB wr C1 c b 212 _:=SB.mk hb (by rw[uk];simp only;rw[if_pos (by omega)];exact hbC)
   have HB:=Lib.hid (Fr.fw hfr (Fr.refl C (K0 c) [some 212] wr).drew)
   obtain⟨A3,c3,hv3,hc3,hz3,-⟩:=bT hof
   injection hv3 with e1 _ e2
   subst e1 e2
   clear uk
   go_wp2_with fail
   refine(ze L lf Af nf cf wr.drew.heap.size C1 c _ ((Sl.de hof).step (Nat.le_refl _) (Below.refl _ _).drew) (Nat.le_refl _) F4.out Iw hz3 IB).mono ?_
   rintro e w2 ⟨⟨bg,rfl,hbg,hgv⟩,hb2⟩
   have hb2':=(Below.refl wr.heap.size wr).drew.trans hb2
   obtain⟨C2,hC2⟩:∃ C2,C2=br C1 wr.heap.size c:=⟨_,rfl⟩
   have DW:aF wr.heap.size C1 C2:=by rw[hC2];exact aF.br C1 _ c
   have KQ:l6 w2 C2 c bg L lf:=by rw[hC2];exact hgv
   have hs3:=(hsb.oK DW).step hb2'
   have hr3:=(hrow.oK DW).step hb2'
   have hf3:=hfr.step hb2'
   have F5:aF N C C2:=hag.trans DW J5
   clear hsb hrow hfr hC2 hgv hag DW HB
   have hc:=hs3.blk.cells
   have hfz:=hs3.blk.frees
   have hs4:=hs3.ar 7 (.pointer (some ⟨bg,0,none⟩))
   have hr4:=hr3.ar hs3 (by decide) 7 (.pointer (some ⟨bg,0,none⟩))
   have hf4:=hf3.ar (SB.mk hs3.blk hbC:SB w2 C c b 212 _) (fk c) (by decide) 7 (.pointer (some ⟨bg,0,none⟩))
   have hg4:=KQ.fr (hs3.sV 7 (.pointer (some ⟨bg,0,none⟩))) (.inr (by decide))
   go_wp2_with fail
   refine NoPanic.normal ?_
   have hc4:=hs4.blk.cells
   go_wp2_with fail
   have hie:((nf:Int)==0)=lf.isEmpty:=by
    rw[←F4.out]
    cases lf with
    | nil=>rfl
    | cons y ys=>exact beq_eq_false_iff_ne.2 (by simp only[List.length_cons];omega)
   go_ret
   refine⟨congrArg (fun q=>Ending.returned (.bool q)) (hie.trans (by rw[F3.out])),⟨C2,by rw[hNe];exact F5,?_⟩,hf4⟩
   rw[s9.out,F3.out]
   exact⟨Ak,Af,nk,nf,ck,cf,bg,_,_,DV.out,F4.out,hs4,hr4,hg4⟩
end Go.Proofs.YtbcnnhlpilmmbaaGreat
