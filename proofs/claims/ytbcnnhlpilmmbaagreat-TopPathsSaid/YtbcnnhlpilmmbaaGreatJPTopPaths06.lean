/- Texts that are wanted for PTopPaths.
   Conditions: none. -/
import Derived.Maps.OwnOps
import Derived.Maps.OwnSet
import Derived.Maps.Views
import Derived.Test.YtbcnnhlpilmmbaaGreatJPTopPaths05
set_option maxRecDepth 100000
set_option maxHeartbeats 6400000
namespace Go.Proofs.YtbcnnhlpilmmbaaGreat
open Go Go.RowKit
abbrev Mm : Type := Nat → Int
structure StS where
 spare : Int
 ret : List Int
def StS.retire (s : StS) (l : List Int) : StS := { s with ret := s.ret ++ l }
structure ScS where
 nodes : List Int
 seen : List Int
 at_ : Int
 kept : List Int
 freed : List Int
 give : List Int
def ScS.new (l : List Int) : ScS := ⟨l, [], 0, [], [], []⟩
def ScS.part (s : ScS) : ScS := { s with kept := s.nodes.filter (fun x => s.seen.contains x), freed := s.nodes.filter (fun x => !s.seen.contains x), give := s.nodes.filter (fun x => !s.seen.contains x) }
def ScS.look (s : ScS) (x : Int) : ScS := { s with seen := wrap64 x :: s.seen, at_ := s.at_ + 1 }
def stepSc (M : ML) (m : Mm) (s : ScS) : Bool × Mm × ScS :=
 if 2 * M.L.th ≤ s.at_ then ((stepGv M m s.give).1, (stepGv M m s.give).2.1, { s with give := (stepGv M m s.give).2.2 })
 else if s.at_ + 1 = 2 * M.L.th then ((s.look (ld M m (M.L.slot 0 s.at_))).part.freed.isEmpty, m, (s.look (ld M m (M.L.slot 0 s.at_))).part)
 else (false, m, s.look (ld M m (M.L.slot 0 s.at_)))
abbrev SwS : Type := Option ScS
def stepSw (M : ML) (m : Mm) (t : StS) (x : SwS) : Bool × Mm × StS × SwS :=
 let r := stepSc M m (x.getD (.new t.ret))
 (r.1, r.2.1, if r.1 then { t with ret := r.2.2.kept } else t, some r.2.2)
structure EnS where
 short : Bool
 alloc : Option AlS
 scan : Option SwS
 done : Bool
def EnS.new : EnS := ⟨false, none, none, false⟩
def firstOf (L : Ly) (me : Int) : Int := 1 + (me * L.nd).tdiv L.th
def newAl (L : Ly) (from_ : Int) : AlS := ⟨0, if L.node from_ then from_ else 1, L.nd, 0, false⟩
def goAl (M : ML) (m : Mm) (t : StS) (e : EnS) (a : AlS) : Bool × Mm × StS × EnS :=
 let r := stepAl M m a
 if r.1 = false then (false, r.2.1, t, { e with alloc := some r.2.2 })
 else if r.2.2.got ≠ 0 then (true, r.2.1, { t with spare := r.2.2.got }, { e with alloc := some r.2.2 })
 else (e.done || t.ret.isEmpty, r.2.1, { t with spare := 0 }, { e with alloc := some r.2.2, short := e.done || t.ret.isEmpty, scan := some none })
def stepEn (M : ML) (me : Int) (m : Mm) (t : StS) (e : EnS) : Bool × Mm × StS × EnS :=
 match e.scan with
 | some x =>
  let r := stepSw M m t x
  if r.1 = false then (false, r.2.1, r.2.2.1, { e with scan := some r.2.2.2 })
  else (((r.2.2.2.getD (.new [])).freed).isEmpty, r.2.1, r.2.2.1, ⟨((r.2.2.2.getD (.new [])).freed).isEmpty, none, none, true⟩)
 | none =>
  match e.alloc with
  | none => if t.spare ≠ 0 then (true, m, t, e) else goAl M m t e (newAl M.L (firstOf M.L me))
  | some a => goAl M m t e a
structure PrS where
 key : Int
 next : Int
 found : Int
 loaded : Bool
def PrS.new (key next : Int) : PrS := ⟨key, next, 0, false⟩
def PrS.word (p : PrS) : Int := putW ((⟨p.key, 0, false, 0, (getW p.found).ver⟩ : Wd).link p.next)
def stepPr (M : ML) (m : Mm) (t : StS) (p : PrS) : Bool × Mm × PrS :=
 if p.loaded = false then (false, m, { p with found := ld M m t.spare, loaded := true })
 else (true, st M m t.spare p.word, p)
structure Pos where
 pred : Int
 pw : Int
 curr : Int
 cw : Int
structure FiS where
 pos : Pos
 tries : Int
 unl : List Int
 ab : Bool
 me : Int
 from_ : Int
 key : Int
 limit : Int
 at_ : Int
 moved : Int
 cl : ClS
def ClS.new (addr : Int) : ClS := ⟨addr, 0, 0, 0⟩
def FiS.new (L : Ly) (me head key limit : Int) : FiS := ⟨⟨L.head head, 0, 0, 0⟩, 0, [], false, me, L.head head, key, limit, 0, 0, .new 0⟩
def FiS.anew (f : FiS) : FiS := { f with pos := { f.pos with pred := f.from_ }, moved := 0, at_ := 0 }
def FiS.over (f : FiS) : Bool := decide (f.limit < f.tries + 1)
def FiS.try_ (f : FiS) : FiS := { f with tries := f.tries + 1, ab := f.over, pos := if f.over then ⟨0, 0, 0, 0⟩ else f.pos }
def FiS.take (f : FiS) (x : Int) : Bool × FiS :=
 if (getW x).mark then (false, f.anew) else (decide ((getW x).next = 0), { f with pos := ⟨f.pos.pred, x, (getW x).next, 0⟩, at_ := 1 })
def FiS.tryTake (f : FiS) (x : Int) : Bool × FiS := if f.over then (true, f.try_) else f.try_.take x
def FiS.move (L : Ly) (f : FiS) : Bool × Bool × FiS :=
 if f.moved + 1 ≤ L.nd then (false, true, { f with moved := f.moved + 1 })
 else if f.over then (true, false, ({ f with moved := f.moved + 1 } : FiS).try_)
 else (false, false, ({ f with moved := f.moved + 1 } : FiS).try_.anew)
def FiS.look (f : FiS) (x : Int) : Bool × FiS :=
 let g : FiS := { f with pos := { f.pos with cw := x } }
 if (getW x).mark = false then (if f.key ≤ (getW x).key then (true, g) else (false, { g with at_ := 6 }))
 else if (getW x).claim ≠ 0 then (false, { g with at_ := 4, cl := .new f.pos.curr })
 else if (getW f.pos.pw).claim ≠ 0 then (false, { g with at_ := 4, cl := .new f.pos.pred })
 else (false, { g with at_ := 5 })
def FiS.cut (f : FiS) : Int := putW ((getW f.pos.pw).link (getW f.pos.cw).next)
def stepFi (M : ML) (m : Mm) (f : FiS) : Bool × Mm × FiS :=
 if f.at_ = 0 then
  let x := ld M m f.pos.pred
  let r := if (getW x).mark then f.tryTake x else f.take x
  (r.1, m, r.2)
 else if f.at_ = 1 then (false, st M m (M.L.slot f.me 1) f.pos.curr, { f with at_ := 2 })
 else if f.at_ = 2 then
  let x := ld M m f.pos.pred
  if x ≠ f.pos.pw then ((f.tryTake x).1, m, (f.tryTake x).2) else (false, m, { f with at_ := 3 })
 else if f.at_ = 3 then ((f.look (ld M m f.pos.curr)).1, m, (f.look (ld M m f.pos.curr)).2)
 else if f.at_ = 4 then
  let r := stepCl M m f.cl
  if r.1 then (f.over, r.2.1, ({ f with cl := r.2.2, at_ := 0 } : FiS).try_) else (false, r.2.1, { f with cl := r.2.2 })
 else if f.at_ = 5 then
  if casOk M m f.pos.pred f.pos.pw then
   let m' := cas M m f.pos.pred f.pos.pw f.cut
   let r := ({ f with unl := f.unl ++ [f.pos.curr] } : FiS).move M.L
   if r.2.1 then ((r.2.2.take f.cut).1, m', (r.2.2.take f.cut).2) else (r.1, m', r.2.2)
  else (f.over, m, ({ f with at_ := 0 } : FiS).try_)
 else
  let r := ({ f with pos := { f.pos with pred := f.pos.curr }, at_ := 0 } : FiS).move M.L
  (r.1, st M m (M.L.slot f.me 0) f.pos.curr, r.2.2)
structure PlS where
 now : Bool
 res : Rsl
 addr : Int
 old : Int
 next : Int
 mark : Bool
 pops : Int
def PlS.zero : PlS := ⟨false, ⟨0, false, 0⟩, 0, 0, 0, false, 0⟩
def told (ok : Bool) : PlS := ⟨true, ⟨0, ok, 0⟩, 0, 0, 0, false, 0⟩
def Pos.link (p : Pos) (next : Int) : PlS := ⟨false, ⟨0, true, 0⟩, p.pred, p.pw, next, (getW p.pw).mark, 0⟩
def Pos.mark (p : Pos) : PlS := ⟨false, ⟨0, true, 0⟩, p.curr, p.cw, (getW p.cw).next, true, 0⟩
def Pos.found (p : Pos) (t : Tk3) : Bool := decide (p.curr ≠ 0) && decide ((getW p.cw).key = t.key)
def Pos.take (p : Pos) (t : Tk3) : PlS :=
 if p.curr = 0 then told false
 else if t.pops then { p.link (getW p.cw).next with pops := p.curr, res := ⟨0, true, (getW p.cw).key⟩ }
 else { p.mark with res := ⟨0, true, (getW p.cw).key⟩ }
def planFor (t : Tk3) (p : Pos) (spare : Int) : PlS :=
 if t.kind = 4 ∨ (t.kind = 1 ∧ p.found t = false) then p.link spare
 else if t.kind = 2 ∧ p.found t = true then p.mark
 else if t.kind = 5 then p.take t
 else told (decide (t.kind = 3) && p.found t)
def PlS.claimed (p : PlS) : Bool := !p.now && decide ((getW p.old).claim ≠ 0)
def PlS.word (p : PlS) : Int := if p.now then 0 else putW ((getW p.old).claimed 0 p.next p.mark).free
def PlS.desc (p : PlS) (att : Int) : Int := if p.now then 0 else putD ⟨att, p.addr, (getW p.old).ver, p.next, p.mark, 2, p.res.val⟩
structure ExS where
 popped : Int
 gave : Int
 u : Int
 task : Tk3
 att : Int
 at_ : Int
 found : Int
 word : Int
def ExS.new (u : Int) (t : Tk3) (att : Int) : ExS := ⟨0, 0, u, t, att, 0, 0, 0⟩
def ExS.load (x : ExS) (v : Int) : Bool × ExS :=
 if (getD' v).att ≠ x.att then (true, { x with found := v })
 else if (getD' v).status = 2 then (false, { x with found := v, at_ := 1 })
 else if (getD' v).status = 3 then (false, { x with found := v, at_ := 5 })
 else if (getD' v).status = 4 then (false, { x with found := v, at_ := 8 })
 else (true, { x with found := v })
def ExS.look (x : ExS) (v without with_ other : Int) : ExS :=
 { x with word := v, at_ := if (getW v).ver = (getD' x.found).ver ∧ (getW v).claim = 0 then without else if (getW v).ver = (getD' x.found).ver ∧ (getW v).claim = x.u + 1 then with_ else other }
def stepEx (M : ML) (m : Mm) (x : ExS) : Bool × Mm × ExS :=
 let d := getD' x.found
 let w := getW x.word
 if x.at_ = 0 then ((x.load (ld M m (M.L.desc x.u))).1, m, (x.load (ld M m (M.L.desc x.u))).2)
 else if x.at_ = 1 then (false, m, x.look (ld M m d.addr) 2 3 4)
 else if x.at_ = 2 then (true, cas M m d.addr x.word (putW (w.claimed x.u d.next d.mark)), if casOk M m d.addr x.word && x.task.pops then { x with popped := w.next } else x)
 else if x.at_ = 3 then (true, cas M m (M.L.desc x.u) x.found (putD (d.with_ 3)), x)
 else if x.at_ = 4 then (true, cas M m (M.L.desc x.u) x.found (putD (d.with_ 4)), x)
 else if x.at_ = 5 then (false, m, x.look (ld M m d.addr) 7 6 7)
 else if x.at_ = 6 then (false, cas M m d.addr x.word (putW w.free), { x with at_ := 7 })
 else if x.at_ = 7 then (true, cas M m (M.L.desc x.u) x.found (putD (d.ended 0 true d.val)), x)
 else if x.at_ = 8 then (!casOk M m (M.L.desc x.u) x.found || (!x.task.links || !M.L.node d.next), cas M m (M.L.desc x.u) x.found (putD d.next1), { x with at_ := 9 })
 else (true, add M m (M.L.life d.next) 1, { x with gave := d.next })
structure FsS where
 res : Rsl
 failed : Bool
 tries : Int
 task : Tk3
 most : Int
 at_ : Int
 plan : PlS
 find : FiS
 cl : ClS
 prep : PrS
def FsS.seek (L : Ly) (me : Int) (f : FsS) : FsS := { f with at_ := 0, find := .new L me f.task.head f.task.pkey (f.most - f.tries) }
def FsS.new (L : Ly) (me : Int) (t : Tk3) (most : Int) : FsS := FsS.seek L me ⟨⟨0, false, 0⟩, false, 0, t, most, 0, .zero, .new L 0 0 0 0, .new 0, .new 0 0⟩
def FsS.over (f : FsS) (n : Int) : Bool := decide (f.most < f.tries + n)
def FsS.try_ (f : FsS) (n : Int) : FsS := { f with tries := f.tries + n, failed := f.over n }
def FsS.again (L : Ly) (me : Int) (f : FsS) : Bool × FsS := if f.over 1 then (true, f.try_ 1) else (false, (f.try_ 1).seek L me)
def FsS.sought (t : StS) (f : FsS) : Bool × StS × FsS :=
 let t' := t.retire f.find.unl
 if f.over f.find.tries then (true, t', f.try_ f.find.tries)
 else
  let p := planFor f.task f.find.pos t.spare
  let g : FsS := { f.try_ f.find.tries with plan := p }
  if p.now then (true, t', { g with res := p.res })
  else if p.claimed then (false, t', { g with at_ := 1, cl := .new p.addr })
  else if f.task.links then (false, t', { g with at_ := 2, prep := .new f.task.key f.find.pos.curr })
  else (false, t', { g with at_ := 3 })
def StS.did (t : StS) (k : Tk3) (p : PlS) : StS :=
 let t' : StS := if k.links then { t with spare := 0 } else t
 if p.pops ≠ 0 then t'.retire [p.pops] else t'
def stepFs (M : ML) (me : Int) (m : Mm) (t : StS) (f : FsS) : Bool × Mm × StS × FsS :=
 if f.at_ = 0 then
  if f.task.links && decide (t.spare = 0) then (true, m, t, { f with failed := true })
  else
   let r := stepFi M m f.find
   let g : FsS := { f with find := r.2.2 }
   if r.1 then ((g.sought t).1, r.2.1, (g.sought t).2.1, (g.sought t).2.2) else (false, r.2.1, t, g)
 else if f.at_ = 1 then
  let r := stepCl M m f.cl
  let g : FsS := { f with cl := r.2.2 }
  if r.1 then ((g.again M.L me).1, r.2.1, t, (g.again M.L me).2) else (false, r.2.1, t, g)
 else if f.at_ = 2 then
  let r := stepPr M m t f.prep
  (false, r.2.1, t, { f with prep := r.2.2, at_ := if r.1 then 3 else 2 })
 else if casOk M m f.plan.addr f.plan.old then (true, cas M m f.plan.addr f.plan.old f.plan.word, t.did f.task f.plan, { f with res := f.plan.res })
 else ((f.again M.L me).1, m, t, (f.again M.L me).2)
structure HpS where
 u : Int
 no : Int
 rounds : Int
 limit : Int
 at_ : Int
 found : Int
 task : Tk3
 plan : PlS
 exec : ExS
 ens : EnS
 find : FiS
 cl : ClS
 prep : PrS
def HpS.new (L : Ly) (u no limit : Int) : HpS := ⟨u, no, 0, limit, 0, 0, .zero, .zero, .new 0 .zero 0, .new, .new L 0 0 0 0, .new 0, .new 0 0⟩
def HpS.search (L : Ly) (me : Int) (h : HpS) : HpS := { h with at_ := 5, find := .new L me h.task.head h.task.pkey h.limit }
def HpS.begin_ (L : Ly) (me : Int) (t : StS) (h : HpS) (x : Int) : Bool × HpS :=
 if tkOk x = false then (true, { h with task := .zero })
 else
  let g : HpS := { h with task := tkOf x }
  if (getD' h.found).status ≠ 1 then (false, { g with at_ := 3, exec := .new h.u (tkOf x) (getD' h.found).att })
  else if (tkOf x).links && decide (t.spare = 0) then (false, { g with at_ := 4, ens := .new })
  else (false, g.search L me)
def fullPlan : PlS := ⟨true, ⟨4, false, 0⟩, 0, 0, 0, false, 0⟩
def HpS.sought (t : StS) (h : HpS) : StS × HpS :=
 let t' := t.retire h.find.unl
 let p := planFor h.task h.find.pos t.spare
 let g : HpS := { h with plan := p }
 if h.find.ab then (t', { g with at_ := 0 })
 else if p.now then (t', { g with at_ := 6 })
 else if p.claimed then (t', { g with at_ := 7, cl := .new p.addr })
 else if h.task.links then (t', { g with at_ := 8, prep := .new h.task.key h.find.pos.curr })
 else (t', { g with at_ := 9 })
def stepHp (M : ML) (me : Int) (m : Mm) (t : StS) (h : HpS) : Bool × Mm × StS × HpS :=
 let d := getD' h.found
 if h.at_ = 0 then (!(getD' (ld M m (M.L.desc h.u))).pend, m, t, { h with found := ld M m (M.L.desc h.u), rounds := h.rounds + 1, at_ := 1 })
 else if h.at_ = 1 then (decide (ld M m (M.L.ticket h.u) ≠ h.no), m, t, { h with at_ := 2 })
 else if h.at_ = 2 then ((h.begin_ M.L me t (ld M m (M.L.task h.u))).1, m, t, (h.begin_ M.L me t (ld M m (M.L.task h.u))).2)
 else if h.at_ = 3 then
  let r := stepEx M m h.exec
  (false, r.2.1, if r.1 ∧ r.2.2.popped ≠ 0 then t.retire [r.2.2.popped] else t, { h with exec := r.2.2, at_ := if r.1 then 0 else 3 })
 else if h.at_ = 4 then
  let r := stepEn M me m t h.ens
  let g : HpS := { h with ens := r.2.2.2 }
  (false, r.2.1, r.2.2.1, if r.1 = false then g else if r.2.2.2.short then { g with at_ := 6, plan := fullPlan } else g.search M.L me)
 else if h.at_ = 5 then
  let r := stepFi M m h.find
  let g : HpS := { h with find := r.2.2 }
  if r.1 then (false, r.2.1, (g.sought t).1, (g.sought t).2) else (false, r.2.1, t, g)
 else if h.at_ = 6 then (false, cas M m (M.L.desc h.u) h.found (putD (d.ended h.plan.res.code h.plan.res.ok h.plan.res.val)), t, { h with at_ := 0 })
 else if h.at_ = 7 then
  let r := stepCl M m h.cl
  (false, r.2.1, t, { h with cl := r.2.2, at_ := if r.1 then 0 else 7 })
 else if h.at_ = 8 then
  let r := stepPr M m t h.prep
  (false, r.2.1, t, { h with prep := r.2.2, at_ := if r.1 then 9 else 8 })
 else (false, cas M m (M.L.desc h.u) h.found (h.plan.desc d.att), if casOk M m (M.L.desc h.u) h.found && h.task.links then { t with spare := 0 } else t, { h with at_ := 0 })
structure AnS where
 no : Int
 at_ : Int
 bits : Int
 found : Int
def AnS.new (t : Tk3) : AnS := ⟨0, 0, t.num, 0⟩
def stepAn (M : ML) (me : Int) (m : Mm) (a : AnS) : Bool × Mm × AnS :=
 if a.at_ = 0 then (false, st M m (M.L.task me) a.bits, { a with at_ := 1 })
 else if a.at_ = 1 then (false, add M m M.L.counter 1, { a with no := (ld M m M.L.counter + 1) % 18446744073709551616, at_ := 2 })
 else if a.at_ = 2 then (false, st M m (M.L.ticket me) a.no, { a with at_ := 3 })
 else if a.at_ = 3 then (false, m, { a with found := ld M m (M.L.desc me), at_ := 4 })
 else (true, st M m (M.L.desc me) (putD (getD' a.found).next1), { a with at_ := 5 })
structure HdS where
 u : Int
 no : Int
 at_ : Int
 ticket : Bool
def HdS.new : HdS := ⟨-1, 0, 0, false⟩
def ahead (n1 u1 n2 u2 : Int) : Bool := decide (n1 < n2 ∨ (n1 = n2 ∧ u1 < u2))
def stepHd (M : ML) (m : Mm) (h : HdS) : Bool × Mm × HdS :=
 if h.ticket = false then
  if (getD' (ld M m (M.L.desc h.at_))).pend then (false, m, { h with ticket := true })
  else (decide (M.L.th ≤ h.at_ + 1), m, { h with at_ := h.at_ + 1, ticket := false })
 else
  let n := ld M m (M.L.ticket h.at_)
  let better := decide (h.u < 0) || ahead n h.at_ h.no h.u
  (decide (M.L.th ≤ h.at_ + 1), m, ⟨if better then h.at_ else h.u, if better then n else h.no, h.at_ + 1, false⟩)
structure DoS where
 res : Rsl
 slow : Bool
 task : Tk3
 limit : Int
 at_ : Int
 head : HdS
 help : HpS
 ens : EnS
 fast : FsS
 ann : AnS
 find : FiS
 drop : GcS
 sweep : SwS
def DoS.new (L : Ly) (t : Tk3) (limit : Int) : DoS := ⟨⟨0, false, 0⟩, false, t, limit, 0, .new, .new L 0 0 0, .new, .new L 0 .zero 0, ⟨0, 0, 0, 0⟩, .new L 0 0 0 0, ⟨0, 0⟩, none⟩
def DoS.leave (me : Int) (d : DoS) : DoS := { d with at_ := 8, drop := ⟨me, 0⟩ }
def DoS.try_ (L : Ly) (me : Int) (d : DoS) : DoS := { d with at_ := 3, fast := .new L me d.task d.limit }
def DoS.want (L : Ly) (me : Int) (t : StS) (d : DoS) : DoS := if d.task.links && decide (t.spare = 0) then { d with at_ := 2, ens := .new } else d.try_ L me
def DoS.looked (L : Ly) (me : Int) (t : StS) (d : DoS) : DoS := if d.head.u < 0 then d.want L me t else { d with at_ := 1, help := .new L d.head.u d.head.no d.limit }
def DoS.told (L : Ly) (me : Int) (d : DoS) (r : Rsl) : DoS :=
 let g : DoS := { d with res := r }
 if r.ok = false ∨ d.task.marks = false then g.leave me else { g with at_ := 7, find := .new L me d.task.head d.task.pkey d.limit }
def DoS.tried (L : Ly) (me : Int) (d : DoS) : DoS := if d.fast.failed = false then d.told L me d.fast.res else { d with slow := true, at_ := 4, ann := .new d.task }
def DoS.ensured (L : Ly) (me : Int) (d : DoS) : DoS := if d.ens.short then ({ d with res := ⟨4, false, 0⟩ } : DoS).leave me else d.try_ L me
def full_ (L : Ly) (t : StS) : Bool := decide (4 * L.th ≤ (t.ret.length : Int))
def stepDo (M : ML) (me : Int) (m : Mm) (t : StS) (d : DoS) : Bool × Mm × StS × DoS :=
 if d.at_ = 0 then
  let r := stepHd M m d.head
  let g : DoS := { d with head := r.2.2 }
  (false, r.2.1, t, if r.1 then g.looked M.L me t else g)
 else if d.at_ = 1 then
  let r := stepHp M me m t d.help
  let g : DoS := { d with help := r.2.2.2 }
  (false, r.2.1, r.2.2.1, if r.1 then g.want M.L me r.2.2.1 else g)
 else if d.at_ = 2 then
  let r := stepEn M me m t d.ens
  let g : DoS := { d with ens := r.2.2.2 }
  (false, r.2.1, r.2.2.1, if r.1 then g.ensured M.L me else g)
 else if d.at_ = 3 then
  let r := stepFs M me m t d.fast
  let g : DoS := { d with fast := r.2.2.2 }
  (false, r.2.1, r.2.2.1, if r.1 then g.tried M.L me else g)
 else if d.at_ = 4 then
  let r := stepAn M me m d.ann
  let g : DoS := { d with ann := r.2.2 }
  (false, r.2.1, t, if r.1 then { g with at_ := 5, help := .new M.L me r.2.2.no d.limit } else g)
 else if d.at_ = 5 then
  let r := stepHp M me m t d.help
  let g : DoS := { d with help := r.2.2.2 }
  (false, r.2.1, r.2.2.1, if r.1 then { g with at_ := 6 } else g)
 else if d.at_ = 6 then (false, m, t, d.told M.L me (getD' (ld M m (M.L.desc me))).res)
 else if d.at_ = 7 then
  let r := stepFi M m d.find
  let g : DoS := { d with find := r.2.2 }
  if r.1 then (false, r.2.1, t.retire r.2.2.unl, g.leave me) else (false, r.2.1, t, g)
 else if d.at_ = 8 then
  let r := stepGc M m d.drop
  let g : DoS := { d with drop := r.2.2 }
  if r.1 then (!full_ M.L t, r.2.1, t, { g with at_ := 9, sweep := none }) else (false, r.2.1, t, g)
 else
  let r := stepSw M m t d.sweep
  (r.1, r.2.1, r.2.2.1, { d with sweep := r.2.2.2 })
def Rng (m : Mm) : Prop := ∀ i, 0 ≤ m i ∧ m i < 18446744073709551616
theorem ld_rngP {M : ML} {m : Mm} (h : Rng m) (a : Int) : 0 ≤ ld M m a ∧ ld M m a < 18446744073709551616 := by
 unfold ld
 split
 ·exact h _
 ·omega
theorem ld_st_same {M : ML} (m : Mm) {a : Int} (x : Int) (h : 0 ≤ a ∧ a < M.L.size) : ld M (st M m a x) a = x := by
 unfold ld st
 rw [if_pos h, if_pos h, upd_same]
theorem ld_st_other {M : ML} (m : Mm) {a b : Int} (x : Int) (h : a ≠ b) : ld M (st M m a x) b = ld M m b := by
 unfold ld st
 split
 ·split
  ·rw [upd_other]
   intro e
   omega
  ·rfl
 ·rfl
theorem casOk_eq {M : ML} {m : Mm} {a old : Int} (h : casOk M m a old = true) : ld M m a = old := by
 unfold casOk at h
 simp only [Bool.and_eq_true, decide_eq_true_eq] at h
 unfold ld
 rw [if_pos h.1]; exact h.2
theorem cas_yes {M : ML} {m : Mm} {a old : Int} (x : Int) (h : casOk M m a old = true) : cas M m a old x = st M m a x := by unfold cas; rw [if_pos h]
theorem cas_not {M : ML} {m : Mm} {a old : Int} (x : Int) (h : casOk M m a old = false) : cas M m a old x = m := by unfold cas; rw [if_neg (by rw [h]; decide)]
theorem st_rng {M : ML} {m : Mm} (h : Rng m) (a x : Int) (hx : 0 ≤ x ∧ x < 18446744073709551616) : Rng (st M m a x) := by
 intro i
 unfold st
 split
 ·unfold upd
  split
  ·exact hx
  ·exact h i
 ·exact h i
structure DVal (L : Ly) (x : Int) : Prop where
 st5 : (getD' x).status ≤ 5
 at_ : 2 ≤ (getD' x).status → (getD' x).status ≤ 4 → (1 ≤ (getD' x).addr ∧ (getD' x).addr ≤ L.nd + 4) ∧ (getD' x).next ≤ L.nd
structure DPath (L : Ly) (x y : Int) : Prop where
 ok : DVal L y
 path : ((getD' x).status = 1 ∧ (getD' y).att = (getD' x).att ∧ ((getD' y).status = 2 ∨ ((getD' y).status = 5 ∧ (getD' y).addr = 0 ∧ (getD' y).ver = 0 ∧ (getD' y).next ≤ 1))) ∨
  ((getD' x).status = 2 ∧ (getD' y = (getD' x).with_ 3 ∨ getD' y = (getD' x).with_ 4)) ∨
  ((getD' x).status = 3 ∧ getD' y = ⟨(getD' x).att, 0, 0, 0, true, 5, (getD' x).val⟩) ∨
  ((getD' x).status = 4 ∧ getD' y = (getD' x).next1)
structure MOk (M : ML) (m : Mm) : Prop where
 rng : Rng m
 word : ∀ a, 1 ≤ a → a ≤ M.L.nd + 4 → (getW (ld M m a)).next ≤ M.L.nd
 desc : ∀ v, 0 ≤ v → v < M.L.th → DVal M.L (ld M m (M.L.desc v))
structure Safe (M : ML) (m m' : Mm) : Prop where
 rng : Rng m'
 word : ∀ a, 1 ≤ a → a ≤ M.L.nd + 4 → (getW (ld M m' a)).next ≤ M.L.nd
 desc : ∀ v, 0 ≤ v → v < M.L.th → ld M m' (M.L.desc v) = ld M m (M.L.desc v) ∨ DPath M.L (ld M m (M.L.desc v)) (ld M m' (M.L.desc v))
 task : ∀ v, 0 ≤ v → v < M.L.th → ld M m' (M.L.task v) = ld M m (M.L.task v)
 tick : ∀ v, 0 ≤ v → v < M.L.th → ld M m' (M.L.ticket v) = ld M m (M.L.ticket v)
 life : ∀ n, 1 ≤ n → n ≤ M.L.nd → ld M m' (M.L.life n) = ld M m (M.L.life n) ∨ ld M m' (M.L.life n) = (ld M m (M.L.life n) + 1) % 18446744073709551616
theorem Safe.refl {M : ML} {m : Mm} (h : MOk M m) : Safe M m m := ⟨h.rng, h.word, fun _ _ _ => .inl rfl, fun _ _ _ => rfl, fun _ _ _ => rfl, fun _ _ _ => .inl rfl⟩
theorem safe_st {M : ML} {m : Mm} (h : MOk M m) {a x : Int} (hx : 0 ≤ x ∧ x < 18446744073709551616) (hw : a < 1 ∨ M.L.nd + 4 < a) (hl : ∀ n, 1 ≤ n → n ≤ M.L.nd → a ≠ M.L.life n) (hr : ∀ v, 0 ≤ v → v < M.L.th → a ≠ M.L.desc v ∧ a ≠ M.L.task v ∧ a ≠ M.L.ticket v) : Safe M m (st M m a x) :=
 ⟨st_rng h.rng _ _ hx, fun b h1 h2 => by rw [ld_st_other _ _ (by omega)]; exact h.word b h1 h2, fun v h0 h1 => .inl (ld_st_other _ _ (hr v h0 h1).1), fun v h0 h1 => ld_st_other _ _ (hr v h0 h1).2.1, fun v h0 h1 => ld_st_other _ _ (hr v h0 h1).2.2, fun n h0 h1 => .inl (ld_st_other _ _ (hl n h0 h1))⟩
theorem safe_slot {M : ML} {m : Mm} (h : MOk M m) {t n x : Int} (hx : 0 ≤ x ∧ x < 18446744073709551616) (hL : M.L.Ok) (ht : 0 ≤ t ∧ t < M.L.th) (hn : 0 ≤ n ∧ n ≤ 1) : Safe M m (st M m (M.L.slot t n) x) := by
 have h1 := hL.th; have h2 := hL.nd
 refine safe_st h hx (.inr ?_) (fun k h3 h4 => ?_) (fun v h3 h4 => ?_)
 ·simp only [Ly.slot]; omega
 ·simp only [Ly.slot, Ly.life]; omega
 ·simp only [Ly.slot, Ly.desc, Ly.task, Ly.ticket]; omega
theorem safe_word {M : ML} {m : Mm} (h : MOk M m) {a x : Int} (hx : 0 ≤ x ∧ x < 18446744073709551616) (hL : M.L.Ok) (ha : 0 ≤ a ∧ a ≤ M.L.nd + 4) (hn : (getW x).next ≤ M.L.nd) : Safe M m (st M m a x) := by
 have h1 := hL.th; have h2 := hL.nd
 have hin : 0 ≤ a ∧ a < M.L.size := by simp only [Ly.size]; omega
 refine ⟨st_rng h.rng _ _ hx, fun b h3 h4 => ?_, fun v h3 h4 => .inl (ld_st_other _ _ ?_), fun v h3 h4 => ld_st_other _ _ ?_, fun v h3 h4 => ld_st_other _ _ ?_, fun n h3 h4 => .inl (ld_st_other _ _ ?_)⟩
 ·by_cases e : a = b
  ·subst e; rw [ld_st_same _ _ hin]; exact hn
  ·rw [ld_st_other _ _ e]; exact h.word b h3 h4
 ·simp only [Ly.desc]; omega
 ·simp only [Ly.task]; omega
 ·simp only [Ly.ticket]; omega
 ·simp only [Ly.life]; omega
theorem safe_casW {M : ML} {m : Mm} (h : MOk M m) {a old x : Int} (hx : 0 ≤ x ∧ x < 18446744073709551616) (hL : M.L.Ok) (ha : 0 ≤ a ∧ a ≤ M.L.nd + 4) (hn : (getW x).next ≤ M.L.nd) : Safe M m (cas M m a old x) := by
 cases hq : casOk M m a old with
 | false => rw [cas_not _ hq]; exact .refl h
 | true => rw [cas_yes _ hq]; exact safe_word h hx hL ha hn
theorem safe_life {M : ML} {m : Mm} (h : MOk M m) {n : Int} (hL : M.L.Ok) (hn : 1 ≤ n ∧ n ≤ M.L.nd) : Safe M m (st M m (M.L.life n) ((ld M m (M.L.life n) + 1) % 18446744073709551616)) := by
 have h1 := hL.th; have h2 := hL.nd
 have hin : 0 ≤ M.L.life n ∧ M.L.life n < M.L.size := by simp only [Ly.size, Ly.life]; omega
 refine ⟨st_rng h.rng _ _ (by omega), fun b h3 h4 => ?_, fun v h3 h4 => .inl (ld_st_other _ _ ?_), fun v h3 h4 => ld_st_other _ _ ?_, fun v h3 h4 => ld_st_other _ _ ?_, fun k h3 h4 => ?_⟩
 ·rw [ld_st_other _ _ (by simp only [Ly.life]; omega)]; exact h.word b h3 h4
 ·simp only [Ly.desc, Ly.life]; omega
 ·simp only [Ly.task, Ly.life]; omega
 ·simp only [Ly.ticket, Ly.life]; omega
 ·by_cases e : n = k
  ·subst e; exact .inr (ld_st_same _ _ hin)
  ·exact .inl (ld_st_other _ _ (by simp only [Ly.life]; omega))
theorem safe_add {M : ML} {m : Mm} (h : MOk M m) {n : Int} (hL : M.L.Ok) (hn : 1 ≤ n ∧ n ≤ M.L.nd) : Safe M m (add M m (M.L.life n) 1) := safe_life h hL hn
theorem safe_casL {M : ML} {m : Mm} (h : MOk M m) {n f : Int} (hL : M.L.Ok) (hn : 1 ≤ n ∧ n ≤ M.L.nd) : Safe M m (cas M m (M.L.life n) f ((f + 1) % 18446744073709551616)) := by
 cases hq : casOk M m (M.L.life n) f with
 | false => rw [cas_not _ hq]; exact .refl h
 | true =>
  rw [cas_yes _ hq]
  have := safe_life h hL hn
  rw [casOk_eq hq] at this
  exact this
theorem safe_casD {M : ML} {m : Mm} (h : MOk M m) {v old x : Int} (hx : 0 ≤ x ∧ x < 18446744073709551616) (hL : M.L.Ok) (hv : 0 ≤ v ∧ v < M.L.th) (hp : DPath M.L old x) : Safe M m (cas M m (M.L.desc v) old x) := by
 have h1 := hL.th; have h2 := hL.nd
 have hin : 0 ≤ M.L.desc v ∧ M.L.desc v < M.L.size := by simp only [Ly.size, Ly.desc]; omega
 cases hq : casOk M m (M.L.desc v) old with
 | false => rw [cas_not _ hq]; exact .refl h
 | true =>
  rw [cas_yes _ hq]
  have he := casOk_eq hq
  refine ⟨st_rng h.rng _ _ hx, fun b h3 h4 => ?_, fun u h3 h4 => ?_, fun u h3 h4 => ld_st_other _ _ ?_, fun u h3 h4 => ld_st_other _ _ ?_, fun k h3 h4 => .inl (ld_st_other _ _ ?_)⟩
  ·rw [ld_st_other _ _ (by simp only [Ly.desc]; omega)]; exact h.word b h3 h4
  ·by_cases e : v = u
   ·subst e; rw [ld_st_same _ _ hin, he]; exact .inr hp
   ·exact .inl (ld_st_other _ _ (by simp only [Ly.desc]; omega))
  ·simp only [Ly.desc, Ly.task]; omega
  ·simp only [Ly.desc, Ly.ticket]; omega
  ·simp only [Ly.desc, Ly.life]; omega
theorem getD_with {x : Int} (s : Int) (hs : 0 ≤ s ∧ s < 8) : getD' (putD ((getD' x).with_ s)) = (getD' x).with_ s := by
 have h := getD_fit x
 exact getD_putD ⟨h.att, h.addr, h.ver, h.next, hs, h.val⟩
theorem dpath_with {L : Ly} {x : Int} (h : DVal L x) (h2 : (getD' x).status = 2) (s : Int) (hs : s = 3 ∨ s = 4) : DPath L x (putD ((getD' x).with_ s)) := by
 have e := getD_with (x := x) s (by omega)
 have hat := h.at_ (by omega) (by omega)
 refine ⟨⟨by rw [e]; simp only [Ds.with_]; omega, fun _ _ => by rw [e]; exact hat⟩, .inr (.inl ⟨h2, ?_⟩)⟩
 rw [e]
 rcases hs with rfl | rfl
 ·exact .inl rfl
 ·exact .inr rfl
theorem ended_fit (x : Int) (code : Int) (ok : Bool) (val : Int) (hv : 0 ≤ val ∧ val < 1024) : ((getD' x).ended code ok val).Fit := by
 have h := getD_fit x
 refine ⟨h.att, by simp [Ds.ended], by simp [Ds.ended], ?_, by simp [Ds.ended], hv⟩
 simp only [Ds.ended]
 split <;> omega
theorem dpath_ends {L : Ly} {x : Int} (h3 : (getD' x).status = 3) : DPath L x (putD ((getD' x).ended 0 true (getD' x).val)) := by
 have e := getD_putD (ended_fit x 0 true (getD' x).val (getD_fit x).val)
 refine ⟨⟨by rw [e]; simp [Ds.ended], fun h4 h5 => by rw [e] at h5; simp [Ds.ended] at h5⟩, .inr (.inr (.inl ⟨h3, ?_⟩))⟩
 rw [e]; rfl
theorem dpath_tells {L : Ly} {x : Int} (h1 : (getD' x).status = 1) (code : Int) (ok : Bool) (val : Int) (hv : 0 ≤ val ∧ val < 1024) : DPath L x (putD ((getD' x).ended code ok val)) := by
 have e := getD_putD (ended_fit x code ok val hv)
 refine ⟨⟨by rw [e]; simp [Ds.ended], fun h4 h5 => by rw [e] at h5; simp [Ds.ended] at h5⟩, .inl ⟨h1, ?_, .inr ?_⟩⟩
 ·rw [e]; rfl
 ·rw [e]
  refine ⟨rfl, rfl, rfl, ?_⟩
  simp only [Ds.ended]
  split <;> omega
theorem next1_fit (x : Int) : (getD' x).next1.Fit := by
 have h := (getD_fit x).att
 refine ⟨?_, ?_, ?_, ?_, ?_, ?_⟩ <;> simp only [Ds.next1] <;> omega
theorem dpath_next {L : Ly} {x : Int} (h4 : (getD' x).status = 4) : DPath L x (putD (getD' x).next1) := by
 have e := getD_putD (next1_fit x)
 exact ⟨⟨by rw [e]; simp [Ds.next1], fun h5 h6 => by rw [e] at h5; simp [Ds.next1] at h5⟩, .inr (.inr (.inr ⟨h4, by rw [e]⟩))⟩
theorem putD_rng64 (d : Ds) : 0 ≤ putD d ∧ putD d < 18446744073709551616 := by have := putD_rng d; omega
theorem putW_rng64 (w : Wd) : 0 ≤ putW w ∧ putW w < 18446744073709551616 := by have := putW_rng w; omega
theorem guard_slots (L : Ly) (hL : L.Ok) (w : World) : Calls Tryz.prog 173 #[L.val] w fun e w' => e = .returned (.int .i64 (2 * L.th)) ∧ Below w.heap.size w w' := by
 obtain ⟨h1, h2⟩ := hL
 obtain ⟨th, nd⟩ := L
 simp only at h1 h2
 simp only [Ly.val]
 have e1 : wrap64 (2 * th) = 2 * th := IntWalk.wrap64_in _ (by omega)
 go_enter Tryz.func173, Tryz.ntmps173
 go_wp2_with fail
 go_ret
 exact ⟨ret_int (by first | rfl | exact e1 | omega), (Below.refl _ _).alloc (Nat.le_refl _) _⟩
theorem intKeyedT : Go.Maps.Keyed Tryz.prog 3 := Go.Maps.int_keyed Tryz.underlying3
theorem zeroBool (w : World) : (zeroValue 4).run Tryz.prog w = .ok (.bool false) w := by kernel_rfl
theorem key_int (x : Int) (h : -9223372036854775808 ≤ x ∧ x < 9223372036854775808) : keyOf Tryz.prog 3 (.int .i64 x) = some (.int .i64 x) := Go.Maps.keyOf_int_mk Tryz.underlying3 (by simp only [Lit.wf]; rw [decide_eq_true (show IntKind.i64.min ≤ x by rw [show IntKind.i64.min = -9223372036854775808 by decide]; omega), decide_eq_true (show x ≤ IntKind.i64.max by rw [show IntKind.i64.max = 9223372036854775807 by decide]; omega)]; rfl)
def SeenAt (w : World) (b n : Nat) (l : List Int) : Prop :=
 ∃ D : DataW Unit, w.ownsMap Tryz.prog 3 (plainElem Tryz.prog 4) b n D ∧ Go.Maps.IsMap D ∧ ∀ x : Int, D.atKey (.int .i64 x) (.lit (.bool false)) = .lit (.bool (l.contains x))
theorem SeenAt.made (w : World) : SeenAt (w.alloc (.map #[] 0)) w.heap.size 0 [] := by
 refine ⟨.map [], World.ownsMap_made w _ _ _, (World.ownsMap_made w Tryz.prog 3 (plainElem Tryz.prog 4)).isMap, fun x => ?_⟩
 simp [DataW.atKey]
theorem SeenAt.step {w w' : World} {b n : Nat} {l : List Int} (h : SeenAt w b n l) (hb : Below w.heap.size w w') : SeenAt w' b n l := by
 obtain ⟨D, h1, h2, h3⟩ := h
 have hlt := h1.lt
 obtain ⟨es, clock, h4, h5⟩ := h1
 exact ⟨D, ⟨es, clock, (hb.block b hlt).trans h4, h5⟩, h2, h3⟩
theorem SeenAt.fr {w w' : World} {b n : Nat} {l : List Int} {C : Nat → Nat} {K : Nat → Prop} {T : List (Option TypeId)} {c : Nat} (h : SeenAt w b n l) (k : Fr C K T w w') (hC : C b = c) (hk : ¬ K c ∨ none ∉ T) : SeenAt w' b n l := by
 obtain ⟨D, h1, h2, h3⟩ := h
 obtain ⟨es, clock, h4, h5⟩ := h1
 exact ⟨D, ⟨es, clock, k.keep b _ h4 (by rw [hC]; exact hk), h5⟩, h2, h3⟩
theorem SeenAt.lt {w : World} {b n : Nat} {l : List Int} (h : SeenAt w b n l) : b < w.heap.size := by
 obtain ⟨D, h1, -⟩ := h; exact h1.lt
theorem plainElem_bool_inv {P : Program} {e : TypeId} (he : P.underlying e = some .bool) {v : Value} {x : Bool} {ps : List MemPlace} (h : plainElem (H := Unit) P e v = some (.lit (.bool x), ps)) : v = .bool x := by
 unfold plainElem at h
 rw [he] at h
 cases v <;> simp at h
 obtain ⟨rfl, -⟩ := h
 rfl
theorem SeenAt.look {w : World} {b n : Nat} {l : List Int} (h : SeenAt w b n l) (x : Int) (key : Value) (hkey : keyOf Tryz.prog 3 key = some (.int .i64 x)) :
  (Instr.lookup 209 (.map (some b)) key false).run Tryz.prog w = .ok (.bool (l.contains x)) w := by
 obtain ⟨D, h1, h2, h3⟩ := h
 obtain ⟨v, ps, hrun, hv⟩ := h1.lookup intKeyedT Tryz.underlying209 (zeroBool w) (plainElem_bool Tryz.underlying4 false) hkey
 rw [h3 x] at hv
 rw [hrun]
 rw [plainElem_bool_inv Tryz.underlying4 hv]
theorem SeenAt.put {w : World} {b n : Nat} {l : List Int} (h : SeenAt w b n l) (hn : n < maxLen) (x : Int) (key : Value) (hkey : keyOf Tryz.prog 3 key = some (.int .i64 x)) :
  ∃ w', (Instr.mapUpdate 209 (.map (some b)) key (.bool true)).run Tryz.prog w = .ok () w' ∧ SeenAt w' b (n + 1) (x :: l) ∧ w.grownBy w' (some b) := by
 obtain ⟨D, h1, h2, h3⟩ := h
 obtain ⟨w', hrun, h4, h5⟩ := h1.update intKeyedT Tryz.underlying209 hn hkey (plainElem_bool Tryz.underlying4 true)
 refine ⟨w', hrun, ⟨_, h4, h4.isMap, fun y => ?_⟩, h5⟩
 by_cases he : y = x
 ·subst he
  rw [Go.Maps.atKey_put_same h2 (by simp [WideAt.IsKeyLit])]
  simp
 ·rw [Go.Maps.atKey_put_other (fun e => he (by injection e)), h3 y]
  have : (x :: l).contains y = l.contains y := by simp [he]
  rw [this]
variable {P : Program} {ops : Array Oper} {Q : Exit → Act → World → Prop}
theorem wp_region_two {id : Nat} {l : List Oper} {a : Act} {w : World} (S : World → Prop) (n : Nat) (ls : List Nat) (i j : Nat) (is : List Nat) (hm : P.follows .mixedOrders = true)
  (hB : (Region.noSelect l.toArray && Region.chainB .any l.toArray n && decide (ls.length + (is.length + 2) = l.length) &&
   leadB .any l.toArray n (sunkGo .any l.toArray n [n]) ls (Array.replicate l.toArray.size false) &&
   decide (Region.ready .any l.toArray (setAll ls (Array.replicate l.toArray.size false)) = [i, j]) &&
   phB .any l.toArray n (sunkGo .any l.toArray n [n]) [([], j)] ((setAll ls (Array.replicate l.toArray.size false)).setIfInBounds i true) &&
   tailB .any l.toArray is (setPh [([], j)] ((setAll ls (Array.replicate l.toArray.size false)).setIfInBounds i true)) &&
   phB .any l.toArray n (sunkGo .any l.toArray n [n]) [([], i)] ((setAll ls (Array.replicate l.toArray.size false)).setIfInBounds j true) &&
   tailB .any l.toArray is (setPh [([], i)] ((setAll ls (Array.replicate l.toArray.size false)).setIfInBounds j true))) = true)
  (hS : S w.drew)
  (h : wpQuiet P l.toArray S (fun a' =>
   wpOp P l.toArray (NoPanic Q) i (fun a'' w'' => S w'' ∧ wpPh P l.toArray (NoPanic Q) S (fun a w => wpTail P l.toArray (NoPanic Q) S n is a w) [([], j)] a'' w'') a' w.drew ∧
   wpOp P l.toArray (NoPanic Q) j (fun a'' w'' => S w'' ∧ wpPh P l.toArray (NoPanic Q) S (fun a w => wpTail P l.toArray (NoPanic Q) S n is a w) [([], i)] a'' w'') a' w.drew) (opsAt l.toArray ls) a) : (Code.region id l.toArray true).wp P Q a w := by
 refine wp_region_noPanic ?_
 simp only [Bool.and_eq_true, decide_eq_true_eq] at hB
 obtain ⟨⟨⟨⟨⟨⟨⟨⟨h1, h2⟩, h3⟩, h4⟩, h5⟩, h6⟩, h7⟩, h8⟩, h9⟩ := hB
 refine wp_region_any hm (wpAny_of_N (S := S) (n := n) _ _ _ _ ?_)
 have hQ : ∀ c a d v w, NoPanic Q (.panic c) (Act.put a d v) w → NoPanic Q (.panic c) a w := fun _ _ _ _ _ h => h
 have inv := LInv.start .any l.toArray
 have key : ∀ i j : Nat, i ∈ Region.ready .any l.toArray (setAll ls (Array.replicate l.toArray.size false)) →
   phB .any l.toArray n (sunkGo .any l.toArray n [n]) [([], j)] ((setAll ls (Array.replicate l.toArray.size false)).setIfInBounds i true) = true →
   tailB .any l.toArray is (setPh [([], j)] ((setAll ls (Array.replicate l.toArray.size false)).setIfInBounds i true)) = true →
   LInv .any l.toArray (setAll ls (Array.replicate l.toArray.size false)) → ∀ a' : Act,
   wpOp P l.toArray (NoPanic Q) i (fun a'' w'' => S w'' ∧ wpPh P l.toArray (NoPanic Q) S (fun a w => wpTail P l.toArray (NoPanic Q) S n is a w) [([], j)] a'' w'') a' w.drew →
   wpOp P l.toArray (NoPanic Q) i (fun a'' w'' => (need l.toArray n i = true → S w'') ∧ wpAnyN P .any l.toArray (NoPanic Q) S n (is.length + 1) ((setAll ls (Array.replicate l.toArray.size false)).setIfInBounds i true) a'' w'') a' w.drew := by
  intro i j hi hp ht hv a' h
  refine wpOp_mono (fun a'' w'' h'' => ⟨fun _ => h''.1, ?_⟩) h
  have h2' := wpAnyN_ph (ops := l.toArray) (Q := NoPanic Q) (S := S) h1 h2 hQ [] is [([], j)] _ a'' w'' (hv.set hi) hp (by rfl) (by simpa [setAll] using ht) h''.1 h''.2
  have e : lenPh [([], j)] + ([] : List Nat).length + is.length = is.length + 1 := by simp [lenPh]; omega
  rw [e] at h2'
  exact h2'
 have fin := wpAnyN_reads (P := P) (ops := l.toArray) (Q := NoPanic Q) (S := S) h1 h2 hQ (is.length + 2) ls _ a w.drew inv h4 hS ?_
 ·rw [h3] at fin
  simpa using fin
 ·refine wpQuiet_mono (fun a' h' hv => ?_) _ _ h
  refine ⟨fun hr => (by rw [h5] at hr; cases hr), fun k hk => ?_⟩
  have hk' : k = i ∨ k = j := by rw [h5] at hk; simpa using hk
  rcases hk' with rfl | rfl
  ·exact key k j hk h6 h7 hv a' h'.1
  ·exact key k i hk h8 h9 hv a' h'.2
structure NewScan (L : Ly) (n : Nat) (xs : List Value) (w : World) (e : Ending) (w' : World) : Prop where
 out : ∃ (b mb : Nat) (v : Value), e = .returned (.pointer (some ⟨b, 0, none⟩)) ∧ w.heap.size ≤ b ∧ w.heap.size ≤ mb ∧ b ≠ mb ∧ v.ownBlock ≠ some b ∧
  Blk w' b 212 #[.int .i64 L.th, .int .i64 L.nd, .slice none 0 0, .slice none 0 0, v, .map (some mb), .int .i64 0, .pointer none] ∧
  w'.ownsRow w.heap.size 3 1 v n xs ∧ SeenAt w' mb 0 []
 below : Below w.heap.size w w'
theorem guard_New (L : Ly) (A : Option Addr) (n c B : Nat) (xs : List Value) (w : World) (hr : Sl w B 1 A n xs) (hB : B ≤ w.heap.size) (h1 : ∀ u ∈ xs, u.oneCell' = true) (hn : n ≤ 100000) (hnil : A = none → n = 0 ∧ c = 0) :
  Calls Tryz.prog 136 #[L.val, .slice A n c] w (NewScan L n xs w) := by
 have HC := Lib.hid (fun (W : World) (k : Below w.heap.size w W) => clone_int A n c B xs W (hr.step hB k) (Nat.le_trans hB k.size) h1 (by omega) hnil)
 clear hr h1 hnil
 obtain ⟨th, nd⟩ := L
 simp only [Ly.val]
 go_enter Tryz.func136, Tryz.ntmps136
 go_wp2_with fail
 have hx := Blk.new w 31 #[.int .i64 th, .int .i64 nd]
 have hb0 : Below w.heap.size w (w.alloc (.cells #[.int .i64 th, .int .i64 nd] 31)) := (Below.refl _ _).alloc (Nat.le_refl _) _
 generalize hW : (w.alloc (.cells #[.int .i64 th, .int .i64 nd] 31)) = w1 at *
 have hs1 := hb0.size
 have q := Later.cells (B := w1.heap.size) hx hx.lt
 refine wp_region_two (fun w' => ∃ q : Later w1.heap.size w1, w' = q.val) 4 [1, 0] 2 3 [4, 5, 6] (by kernel_rfl) (by kernel_rfl) (Later.mk_ (Below.refl _ _).drew) ?_
 simp only [opsAt, List.map_cons, List.map_nil, List.getD_cons_zero, List.getD_cons_succ]
 repeat (go_big_quiet_step (fail))
 refine wpQuiet_nil ?_
 have hmk : ∀ W : World, (Instr.makeMap 209 none).run Tryz.prog W = .ok (.map (some W.heap.size)) (W.alloc (.map #[] 0)) := fun W => rfl
 have hbA : Below w1.heap.size w1 (w1.alloc (.map #[] 0)).drew := ((Below.refl _ _).alloc (Nat.le_refl _) _).drew
 refine ⟨?_, ?_⟩
 ·skip
  refine wpPh_op rfl (fun K' hK' => ?_)
  go_simp
  ((with_reducible refine (HC.out _ hb0.drew).mono ?_); rintro e w2 ⟨v, rfl, hown, hb2⟩)
  obtain ⟨A7, c7, rfl, hc7, -, -⟩ := own_form hown
  refine hK' _ _ (Later.mk_ ((Below.refl w1.heap.size w1).drew.trans hb2)) ?_
  clear hK' K'
  refine wpPh_cons ?_
  simp only [opsAt, List.map_nil]
  repeat (go_big_quiet_step (fail))
  refine wpQuiet_nil ?_
  refine wpPh_op rfl (fun K' hK' => ?_)
  go_simp
  refine hK' _ _ (Later.mk_ (((Below.refl w1.heap.size w1).drew.trans hb2).alloc hb2.size _)) ?_
  clear hK' K'
  refine wpPh_nil ?_
  refine wpTail_late _ _ _ (by kernel_rfl) ?_
  try simp only [opsAt, List.map_cons, List.map_nil, List.getD_cons_zero, List.getD_cons_succ]
  clear q hW
  go_wp2_with fail
  refine NoPanic.normal ?_
  go_wp2_with fail
  have hs2 := hb2.size
  have hs3 : w1.heap.size ≤ w2.heap.size := hs2
  refine bodyPost_ret (v := .pointer (some ⟨w2.heap.size + 1, 0, none⟩)) (by simp [results, Tryz.results136, go_sem]) rfl ⟨⟨w2.heap.size + 1, w2.heap.size, .slice A7 n c7, rfl, by omega, by omega, by omega, ?_, Blk.newAt _ _ _ (by simp), ?_, ?_⟩, ?_⟩
  ·intro h; obtain ⟨-, cs, hk⟩ := own_at hown _ h; have := hk.lt; omega
  ·exact own_mono (own_step hown (((Below.refl _ _).alloc (Nat.le_refl _) _).alloc (by simp) _)) hs1
  ·exact (SeenAt.made w2).step ((Below.refl _ _).alloc (Nat.le_refl _) _)
  ·exact ((hb0.drew.trans (hb2.mono hs1)).alloc (by omega) _).alloc (by simp; omega) _
 ·skip
  refine wpPh_op rfl (fun K' hK' => ?_)
  go_simp
  refine hK' _ _ (Later.mk_ hbA) ?_
  clear hK' K'
  refine wpPh_cons ?_
  simp only [opsAt, List.map_nil]
  repeat (go_big_quiet_step (fail))
  refine wpQuiet_nil ?_
  refine wpPh_op rfl (fun K' hK' => ?_)
  go_simp
  ((with_reducible refine (HC.out _ (hb0.alloc hs1 (.map #[] 0)).drew).mono ?_); rintro e w2 ⟨v, rfl, hown, hb2⟩)
  obtain ⟨A7, c7, rfl, hc7, -, -⟩ := own_form hown
  refine hK' _ _ (Later.mk_ (hbA.trans (hb2.mono hbA.size))) ?_
  clear hK' K'
  refine wpPh_nil ?_
  refine wpTail_late _ _ _ (by kernel_rfl) ?_
  try simp only [opsAt, List.map_cons, List.map_nil, List.getD_cons_zero, List.getD_cons_succ]
  clear q hW
  go_wp2_with fail
  refine NoPanic.normal ?_
  go_wp2_with fail
  have hs2 := hb2.size
  have hs3 : w1.heap.size + 1 ≤ w2.heap.size := by simpa using hs2
  have hbB : Below w.heap.size w w2 := (hb0.alloc hs1 (.map #[] 0)).drew.trans (hb2.mono (hb0.alloc hs1 (.map #[] 0)).drew.size)
  refine bodyPost_ret (v := .pointer (some ⟨w2.heap.size, 0, none⟩)) (by simp [results, Tryz.results136, go_sem]) rfl ⟨⟨w2.heap.size, w1.heap.size, .slice A7 n c7, rfl, by omega, by omega, by omega, ?_, Blk.newAt _ _ _ rfl, ?_, ?_⟩, ?_⟩
  ·intro h; obtain ⟨-, cs, hk⟩ := own_at hown _ h; have := hk.lt; omega
  ·exact own_mono (own_step hown ((Below.refl _ _).alloc (Nat.le_refl _) _)) (hb0.alloc hs1 (.map #[] 0)).drew.size
  ·exact ((SeenAt.made w1).step ((Below.refl _ _).drew.trans hb2)).step ((Below.refl _ _).alloc (Nat.le_refl _) _)
  ·exact ((hb0.drew.alloc hb0.drew.size _).trans (hb2.mono (by simp; omega))).alloc (by omega) _
def keepP (seen l : List Int) : List Int := l.filter (fun x => seen.contains x)
def freeP (seen l : List Int) : List Int := l.filter (fun x => !seen.contains x)
theorem keepP_len (seen l : List Int) : (keepP seen l).length ≤ l.length := List.length_filter_le ..
theorem freeP_len (seen l : List Int) : (freeP seen l).length ≤ l.length := List.length_filter_le ..
theorem keepP_yes {seen : List Int} {x : Int} (l : List Int) (h : seen.contains x = true) : keepP seen (l ++ [x]) = keepP seen l ++ [x] := by
 unfold keepP; rw [List.filter_append, List.filter_cons_of_pos (by exact h)]; rfl
theorem keepP_no {seen : List Int} {x : Int} (l : List Int) (h : seen.contains x = false) : keepP seen (l ++ [x]) = keepP seen l := by
 unfold keepP; rw [List.filter_append, List.filter_cons_of_neg (by rw [h]; decide)]; simp
theorem freeP_no {seen : List Int} {x : Int} (l : List Int) (h : seen.contains x = false) : freeP seen (l ++ [x]) = freeP seen l ++ [x] := by
 unfold freeP; rw [List.filter_append, List.filter_cons_of_pos (by rw [h]; decide)]; rfl
theorem freeP_yes {seen : List Int} {x : Int} (l : List Int) (h : seen.contains x = true) : freeP seen (l ++ [x]) = freeP seen l := by
 unfold freeP; rw [List.filter_append, List.filter_cons_of_neg (by rw [h]; decide)]; simp
theorem own_alloc {w : World} {base : Nat} {e : TypeId} {size n : Nat} {v : Value} {xs : List Value} (h : w.ownsRow base e size v n xs) (o : Obj) : (w.alloc o).ownsRow base e size v n xs := own_step h ((Below.refl _ _).alloc (Nat.le_refl _) o)
theorem own_grown {w w' : World} {base : Nat} {e : TypeId} {size n : Nat} {v : Value} {xs : List Value} {row : Option Nat} (h : w.ownsRow base e size v n xs) (hg : w.grownBy w' row) (hr : ∀ g, v.ownBlock = some g → row ≠ some g) : w'.ownsRow base e size v n xs := by
 obtain ⟨h1, h2⟩ := h
 refine ⟨h1, ?_⟩
 rcases h2 with h2 | ⟨g, cap, cur, rfl, hbg, hgl, rest⟩
 ·exact .inl h2
 ·exact .inr ⟨g, cap, cur, rfl, hbg, (hg.block g (lt_size hgl) (fun e => hr g rfl e.symm)).trans hgl, rest⟩
theorem Fr.grown_new {C : Nat → Nat} {K : Nat → Prop} {L : List (Option TypeId)} {a w w' : World} {row : Option Nat} (h : Fr C K L a w) (hg : w.grownBy w' row) (hr : ∀ g, row = some g → a.heap.size ≤ g) : Fr C K L a w' :=
 ⟨hg.os.trans h.os, hg.tape.trans h.tape, hg.output.trans h.output, Nat.le_trans h.size hg.size, fun g o ho hk => by
  have h1 := h.keep g o ho hk
  rw [hg.block g (lt_size h1) (fun e => by have := hr g e.symm; have := lt_size ho; omega)]
  exact h1⟩
structure ScLook (w : World) (C : Nat → Nat) (c b : Nat) (L : Ly) (l seen : List Int) (at_ : Int) : Prop where
 ex : ∃ (An : Option Addr) (n cn mb k0 : Nat), l.length = n ∧ SB w C c b 212 #[.int .i64 L.th, .int .i64 L.nd, .slice none 0 0, .slice none 0 0, .slice An n cn, .map (some mb), .int .i64 at_, .pointer none] ∧ Sr w C c 3 1 An n (ivs l) ∧ n ≤ cn ∧ SeenAt w mb k0 seen ∧ C mb = c ∧ (k0 : Int) ≤ at_
structure ScGive (w : World) (C : Nat → Nat) (c s b : Nat) (L : Ly) (at_ : Int) (kept freed give : List Int) : Prop where
 ex : ∃ (Ak Af : Option Addr) (nk nf ck cf bg : Nat) (vn vm : Value), kept.length = nk ∧ freed.length = nf ∧
  SB w C c b 212 #[.int .i64 L.th, .int .i64 L.nd, .slice Ak nk ck, .slice Af nf cf, vn, vm, .int .i64 at_, .pointer (some ⟨bg, 0, none⟩)] ∧
  Row w C s 3 1 (.slice Ak nk ck) nk (ivs kept) ∧ GvAt w C c bg L give
structure PartW (C : Nat → Nat) (c s b : Nat) (L : Ly) (l seen : List Int) (at_ : Int) (w : World) (e : Ending) (w' : World) : Prop where
 ret : e = .returned (.bool (freeP seen l).isEmpty)
 own : ∃ C', Agr w.heap.size C C' ∧ ScGive w' C' c s b L at_ (keepP seen l) (freeP seen l) (freeP seen l)
 fr : Fr C (K0 c) [some 212] w w'
structure PartI (C : Nat → Nat) (c b mb N : Nat) (L : Ly) (An : Option Addr) (n cn : Nat) (at_ : Int) (lk lf : List Int) (w wr : World) : Prop where
 ex : ∃ (Ak Af : Option Addr) (ck cf nk nf : Nat), lk.length = nk ∧ lf.length = nf ∧ Blk wr b 212 #[.int .i64 L.th, .int .i64 L.nd, .slice Ak nk ck, .slice Af nf cf, .slice An n cn, .map (some mb), .int .i64 at_, .pointer none] ∧
  wr.ownsRow N 3 1 (.slice Ak nk ck) nk (ivs lk) ∧ wr.ownsRow N 3 1 (.slice Af nf cf) nf (ivs lf) ∧
  (∀ g, Value.ownBlock (.slice Ak nk ck) = some g → Value.ownBlock (.slice Af nf cf) ≠ some g)
 fr : Fr C (K0 c) [some 212] w wr
 size : N ≤ wr.heap.size
theorem scan_parts {w : World} {C : Nat → Nat} {c s b mb k0 : Nat} {L : Ly} {l seen : List Int} {An : Option Addr} {n cn : Nat} {at_ : Int} (hb : SB w C c b 212 #[.int .i64 L.th, .int .i64 L.nd, .slice none 0 0, .slice none 0 0, .slice An n cn, .map (some mb), .int .i64 at_, .pointer none]) (hn : l.length = n) (hn' : n ≤ 100000) (hsm : Small l)
  (hs : Sr w C c 3 1 An n (ivs l)) (hse : SeenAt w mb k0 seen) (hmb : C mb = c) : Calls Tryz.prog 175 #[.pointer (some ⟨b, 0, none⟩)] w (PartW C c s b L l seen at_ w) := by
 obtain ⟨i0, hi, hz0, hz1, hz2⟩ := info_parts info_int
 have HN := Lib.hid hn
 have HSM := Lib.hid hsm
 obtain ⟨N, hNe⟩ : ∃ N, w.heap.size = N := ⟨_, rfl⟩
 have hc := hb.blk.cells
 have HS := Lib.hid hs
 have HSE := Lib.hid hse
 have hI0 : PartI C c b mb N L An n cn at_ (keepP seen (l.take 0)) (freeP seen (l.take 0)) w w := ⟨⟨none, none, 0, 0, 0, 0, rfl, rfl, hb.blk, World.ownsRow_nil _ _ _ _, World.ownsRow_nil _ _ _ _, by simp [Value.ownBlock]⟩, Fr.refl _ _ _ _, by omega⟩
 have HI0 := Lib.hid hI0
 have hbl := hb.lt
 have hbC := hb.col
 clear hn hsm hs hse hI0
 go_enter Tryz.func175, Tryz.ntmps175
 go_wp2_with fail
 go_loopw [10] (fun i wr => ∃ k : Nat, k ≤ n ∧ i = .int .i64 k ∧ Hid (PartI C c b mb N L An n cn at_ (keepP seen (l.take k)) (freeP seen (l.take k)) w wr)) (fun i _ => n - (intOf i).toNat)
 case atStart => exact ⟨0, by omega, rfl, HI0⟩
 case round =>
  obtain ⟨k, hk, rfl, hI⟩ := hrel
  clear hc
  by_cases hlt : k < n
  ·have dk : decide ((k : Int) < (n : Int)) = true := by simp; omega
   obtain ⟨x, hx⟩ : ∃ x, l[k]? = some x := ⟨_, List.getElem?_eq_getElem (by rw [HN.out]; exact hlt)⟩
   have hkl := keepP_len seen (l.take k)
   have hfl := freeP_len seen (l.take k)
   have htk : (l.take k).length ≤ k := by simp; omega
   have hsn : l.take (k + 1) = l.take k ++ [x] := by rw [List.take_add_one, hx]; rfl
   obtain ⟨⟨Ak, Af, ck, cf, nk, nf, hnk, hnf, hb, hok, hof, hne⟩, hfr, hNr⟩ := hI.out
   have HSN := Lib.hid hsn
   clear hI hsn
   have HSR := Lib.hid (HS.out.fr hfr (.inr (by decide)))
   have hcx := HSR.out.sl.cell k (by omega)
   have hidx := HSR.out.sl.idx (P := Tryz.prog) (c := cn) Tryz.underlying89 intSzT hlt
   simp only [ivs, List.getElem?_map, hx, Option.map_some, Nat.mul_one] at hcx hidx
   have hsee : SeenAt wr mb k0 seen := HSE.out.fr hfr hmb (.inr (by decide))
   have hlook : (Instr.lookup 209 (.map (some mb)) (.int .i64 x) false).run Tryz.prog wr = .ok (.bool (seen.contains x)) wr := hsee.look x _ (key_int x (by have := HSM.out x (List.mem_of_getElem? hx); omega))
   obtain ⟨lk, hlk⟩ : ∃ lk, keepP seen (l.take k) = lk := ⟨_, rfl⟩
   obtain ⟨lf, hlf⟩ : ∃ lf, freeP seen (l.take k) = lf := ⟨_, rfl⟩
   rw [hlk] at hkl hok hnk
   rw [hlf] at hfl hof hnf
   have HLK := Lib.hid hlk
   have HLF := Lib.hid hlf
   have HNK := Lib.hid hnk
   have HNF := Lib.hid hnf
   have hnk2 : nk ≤ 100000 := by omega
   have hnf2 : nf ≤ 100000 := by omega
   clear hlk hlf hx hnk hnf hkl hfl htk
   cases hp : seen.contains x with
   | true =>
    rw [hp] at hlook
    have HP := Lib.hid hp
    clear hp
    have own' := own_alloc hok (.cells #[.int .i64 x] 3)
    have oth' := own_alloc hof (.cells #[.int .i64 x] 3)
    have hc := hb.cells
    have hba := hb.alloc (.cells #[.int .i64 x] 3)
    have hca := hba.cells
    have hfa := hba.frees
    have hoa := own_at own'
    have hne1 := own_ne own' hba (by decide)
    have hne2 := own_ne oth' hba (by decide)
    have hob := own_at oth'
    go_wp2_with (at_builtin; refine wpList_append_lies _ rfl _ _ _ rfl N 3 i0 _ 1 8 Tryz.underlying89 hi hz0 hz1 hz2 rfl (by omega) (.slice Ak nk ck) nk (ivs lk) rfl own' ⟨wr.heap.size, 0, none⟩ 1 1 [.int .i64 x] rfl rfl (World.news_of_block (heap_alloc_new wr _)) (ivs_one [x]) (by omega) (by unfold maxLen; omega) (by omega) (by simp; omega) (wr.heap.size + 1) (by simp) ?_; intro g cap W12 hown2 hgrow hat hlt2; have hb12 := hba.grown hgrow (by first | exact fun e => hne1 e | exact fun e => hne1 e.symm); have hot12 := own_grown oth' hgrow (by first | exact fun g hg e => hne g e hg | exact fun g hg e => hne g hg e); have hfr12 : Fr C (K0 c) [some 212] w W12 := (hfr.alloc (.cells #[.int .i64 x] 3)).grown_new hgrow (fun g hg => by rw [hNe]; exact (hoa g hg).1); have hsz12 := hgrow.size; have hc12 := hb12.cells; have hfz12 := hb12.frees)
    have hNK' : (lk ++ [x]).length = nk + 1 := by rw [List.length_append, HNK.out]; rfl
    have hNF' : (lf ++ [x]).length = nf + 1 := by rw [List.length_append, HNF.out]; rfl
    refine ⟨⟨k + 1, by omega, by go_num, Lib.hid ?_⟩, by simp [intOf]; omega⟩
    rw [HSN.out, keepP_yes _ HP.out, freeP_yes _ HP.out, HLK.out, HLF.out]
    have hsb : SB W12 C c b 212 _ := SB.mk hb12 hbC
    have hfr13 := hfr12.set_ hsb (K0_own c) (by decide) 2 (.slice (some ⟨g, 0, none⟩) (nk + 1) cap)
    have hown3 : W12.ownsRow N 3 1 (.slice (some ⟨g, 0, none⟩) (nk + 1) cap) (nk + 1) (ivs (lk ++ [x])) := by simpa [ivs] using hown2
    have ho1 := own_set hown3 (a := ⟨b, 2, none⟩) (own_ne hown3 hb12 (by decide)) (.slice (some ⟨g, 0, none⟩) (nk + 1) cap)
    have ho2 := own_set hot12 (a := ⟨b, 2, none⟩) (own_ne hot12 hb12 (by decide)) (.slice (some ⟨g, 0, none⟩) (nk + 1) cap)
    have hd : ∀ g', g = g' → Value.ownBlock (.slice Af nf cf) ≠ some g' := by
     intro g' hg e
     subst hg
     rcases hat with hat | hat
     ·exact hne g (by assumption) (by assumption)
     ·obtain ⟨-, cs, hk⟩ := hob g e
      have := hk.lt
      simp at this; omega
    refine ⟨⟨some ⟨g, 0, none⟩, Af, cap, cf, nk + 1, nf, hNK', HNF.out, hb12.set_ 2 _, ho1, ho2, fun g' hg' => hd g' (by injection hg')⟩, hfr13, by rw [← hNe]; exact hfr13.size⟩
   | false =>
    rw [hp] at hlook
    have HP := Lib.hid hp
    clear hp
    have own' := own_alloc hof (.cells #[.int .i64 x] 3)
    have oth' := own_alloc hok (.cells #[.int .i64 x] 3)
    have hc := hb.cells
    have hba := hb.alloc (.cells #[.int .i64 x] 3)
    have hca := hba.cells
    have hfa := hba.frees
    have hoa := own_at own'
    have hne1 := own_ne own' hba (by decide)
    have hne2 := own_ne oth' hba (by decide)
    have hob := own_at oth'
    go_wp2_with (at_builtin; refine wpList_append_lies _ rfl _ _ _ rfl N 3 i0 _ 1 8 Tryz.underlying89 hi hz0 hz1 hz2 rfl (by omega) (.slice Af nf cf) nf (ivs lf) rfl own' ⟨wr.heap.size, 0, none⟩ 1 1 [.int .i64 x] rfl rfl (World.news_of_block (heap_alloc_new wr _)) (ivs_one [x]) (by omega) (by unfold maxLen; omega) (by omega) (by simp; omega) (wr.heap.size + 1) (by simp) ?_; intro g cap W12 hown2 hgrow hat hlt2; have hb12 := hba.grown hgrow (by first | exact fun e => hne1 e | exact fun e => hne1 e.symm); have hot12 := own_grown oth' hgrow (by first | exact fun g hg e => hne g e hg | exact fun g hg e => hne g hg e); have hfr12 : Fr C (K0 c) [some 212] w W12 := (hfr.alloc (.cells #[.int .i64 x] 3)).grown_new hgrow (fun g hg => by rw [hNe]; exact (hoa g hg).1); have hsz12 := hgrow.size; have hc12 := hb12.cells; have hfz12 := hb12.frees)
    have hNK' : (lk ++ [x]).length = nk + 1 := by rw [List.length_append, HNK.out]; rfl
    have hNF' : (lf ++ [x]).length = nf + 1 := by rw [List.length_append, HNF.out]; rfl
    refine ⟨⟨k + 1, by omega, by go_num, Lib.hid ?_⟩, by simp [intOf]; omega⟩
    rw [HSN.out, keepP_no _ HP.out, freeP_no _ HP.out, HLK.out, HLF.out]
    have hsb : SB W12 C c b 212 _ := SB.mk hb12 hbC
    have hfr13 := hfr12.set_ hsb (K0_own c) (by decide) 3 (.slice (some ⟨g, 0, none⟩) (nf + 1) cap)
    have hown3 : W12.ownsRow N 3 1 (.slice (some ⟨g, 0, none⟩) (nf + 1) cap) (nf + 1) (ivs (lf ++ [x])) := by simpa [ivs] using hown2
    have ho1 := own_set hown3 (a := ⟨b, 3, none⟩) (own_ne hown3 hb12 (by decide)) (.slice (some ⟨g, 0, none⟩) (nf + 1) cap)
    have ho2 := own_set hot12 (a := ⟨b, 3, none⟩) (own_ne hot12 hb12 (by decide)) (.slice (some ⟨g, 0, none⟩) (nf + 1) cap)
    have hd : ∀ g', g = g' → Value.ownBlock (.slice Ak nk ck) ≠ some g' := by
     intro g' hg e
     subst hg
     rcases hat with hat | hat
     ·exact hne g (by assumption) (by assumption)
     ·obtain ⟨-, cs, hk⟩ := hob g e
      have := hk.lt
      simp at this; omega
    refine ⟨⟨Ak, some ⟨g, 0, none⟩, ck, cap, nk, nf + 1, HNK.out, hNF', hb12.set_ 3 _, ho2, ho1, fun g' hg' e => hd g' (by injection e) hg'⟩, hfr13, by rw [← hNe]; exact hfr13.size⟩
  ·have dk : decide ((k : Int) < (n : Int)) = false := by simp; omega
   have hkn : k = n := by omega
   subst hkn
   have hA : l.take k = l := List.take_of_length_le (by rw [HN.out]; exact Nat.le_refl _)
   have hkl := keepP_len seen l
   have hfl := freeP_len seen l
   rw [HN.out] at hkl hfl
   rw [hA] at hI
   obtain ⟨⟨Ak, Af, ck, cf, nk, nf, hnk, hnf, hb, hok, hof, hne⟩, hfr, hNr⟩ := hI.out
   have hsmf : Small (freeP seen l) := fun x hx => HSM.out x (List.mem_filter.1 hx).1
   obtain ⟨lk, hlk⟩ : ∃ lk, keepP seen l = lk := ⟨_, rfl⟩
   obtain ⟨lf, hlf⟩ : ∃ lf, freeP seen l = lf := ⟨_, rfl⟩
   rw [hlk] at hkl hok hnk
   rw [hlf] at hfl hof hnf hsmf
   have HLK := Lib.hid hlk
   have HLF := Lib.hid hlf
   have HNK := Lib.hid hnk
   have HNF := Lib.hid hnf
   have hnf2 : nf ≤ 100000 := by omega
   clear hlk hlf hnk hkl hfl hI hA
   have hc := hb.cells
   have hbl2 := hb.lt
   go_wp2_with fail
   clear hc
   have q := Later.cells (B := wr.heap.size) hb hbl2
   refine wp_region_ph (fun w' => ∃ q : Later wr.heap.size wr, w' = q.val) 9 [] [0, 1, 2, 3, 4, 5, 6, 7, 8] [9, 10, 11, 12] (by kernel_rfl) (by kernel_rfl) (Later.mk_ (Below.refl _ _).drew) ?_
   refine wpPh_nil ?_
   try simp only [opsAt, List.map_cons, List.map_nil, List.getD_cons_zero, List.getD_cons_succ]
   repeat (go_big_quiet_step (fail))
   refine wpQuiet_nil ?_
   refine wpTail_late _ _ _ (by kernel_rfl) ?_
   try simp only [opsAt, List.map_cons, List.map_nil, List.getD_cons_zero, List.getD_cons_succ]
   clear q
   obtain ⟨C1, hC1⟩ : ∃ C1 : Nat → Nat, C1 = fun g => if g < N then C g else if Value.ownBlock (.slice Ak nk ck) = some g then s else c := ⟨_, rfl⟩
   have hag : Agr N C C1 := fun g hg => by rw [hC1]; exact if_pos hg
   have hrow : Row wr C1 s 3 1 (.slice Ak nk ck) nk (ivs lk) := ⟨own_mono hok (Nat.zero_le _), fun g hg => by
    rw [hC1]
    simp only
    rw [if_neg (by have := (own_at hok g hg).1; omega), if_pos hg]⟩
   have hsb : SB wr C1 c b 212 _ := SB.mk hb (by rw [hC1]; simp only; rw [if_pos (by omega)]; exact hbC)
   have HB := Lib.hid (Fr.trans_ hfr (Fr.refl C (K0 c) [some 212] wr).drew)
   obtain ⟨A3, c3, hv3, hc3, hz3, -⟩ := own_form hof
   injection hv3 with e1 _ e2
   subst e1 e2
   clear hC1
   go_wp2_with fail
   refine (life_Back L lf Af nf cf wr.drew.heap.size C1 c _ ((Sl.of_own hof).step (Nat.le_refl _) (Below.refl _ _).drew) (Nat.le_refl _) HNF.out hnf2 hz3 hsmf).mono ?_
   rintro e w2 ⟨⟨bg, rfl, hbg, hgv⟩, hb2⟩
   have hb2' := (Below.refl wr.heap.size wr).drew.trans hb2
   obtain ⟨C2, hC2⟩ : ∃ C2, C2 = paint C1 wr.heap.size c := ⟨_, rfl⟩
   have hag2 : Agr wr.heap.size C1 C2 := by rw [hC2]; exact Agr.paint C1 _ c
   have hgv2 : GvAt w2 C2 c bg L lf := by rw [hC2]; exact hgv
   have hs3 := (hsb.agr hag2).step hb2'
   have hr3 := (hrow.agr hag2).step hb2'
   have hf3 := hfr.step hb2'
   have hag3 : Agr N C C2 := hag.trans hag2 hNr
   clear hsb hrow hfr hC2 hgv hag hag2 HB
   have hc := hs3.blk.cells
   have hfz := hs3.blk.frees
   have hs4 := hs3.set_ 7 (.pointer (some ⟨bg, 0, none⟩))
   have hr4 := hr3.set_ hs3 (by decide) 7 (.pointer (some ⟨bg, 0, none⟩))
   have hf4 := hf3.set_ (SB.mk hs3.blk hbC : SB w2 C c b 212 _) (K0_own c) (by decide) 7 (.pointer (some ⟨bg, 0, none⟩))
   have hg4 := hgv2.fr (hs3.fr1 7 (.pointer (some ⟨bg, 0, none⟩))) (.inr (by decide))
   go_wp2_with fail
   refine NoPanic.normal ?_
   have hc4 := hs4.blk.cells
   go_wp2_with fail
   have hie : ((nf : Int) == 0) = lf.isEmpty := by
    rw [← HNF.out]
    cases lf with
    | nil => rfl
    | cons y ys => exact beq_eq_false_iff_ne.2 (by simp only [List.length_cons]; omega)
   go_ret
   refine ⟨congrArg (fun q => Ending.returned (.bool q)) (hie.trans (by rw [HLF.out])), ⟨C2, by rw [hNe]; exact hag3, ?_⟩, hf4⟩
   rw [HLK.out, HLF.out]
   exact ⟨Ak, Af, nk, nf, ck, cf, bg, _, _, HNK.out, HNF.out, hs4, hr4, hg4⟩
end Go.Proofs.YtbcnnhlpilmmbaaGreat
