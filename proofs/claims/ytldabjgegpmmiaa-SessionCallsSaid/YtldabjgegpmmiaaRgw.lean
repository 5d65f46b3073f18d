/-
  Layer 47: what the reference's Receive computes, by its inner functions (plain).
-/
import Derived.Test.YtldabjgegpmmiaaRgs
namespace Go.Proofs.Ytldabjgegpmmiaa
set_option linter.all false
set_option linter.unusedVariables false
set_option linter.unusedSimpArgs false
set_option linter.unusedSectionVars false
open Go.RowKit Go.Sx
abbrev gRef (R : RE) (m : Msg) (n : Int) : TRI := (((rrfsF R m).1.1, n, ()), (rrfsF R m).2)
abbrev gFin (R : RE) (l : List Msg) (n : Int) : TRI := if R.st = 2 then (if R.w.fin = true then (if R.ended = true then ((l, n, ()), { R with st := 4 }) else ((l, n, ()), R)) else ((l, n, ()), R)) else ((l, n, ()), R)
abbrev gF2 (R : RE) (l : List Msg) (n : Int) : TRI := if R.w.fin = true then (if R.ended = true then ((l, n, ()), { R with st := 4 }) else ((l, n, ()), R)) else ((l, n, ()), R)
abbrev gtk (R : RE) (s p k : Int) (g : Seg) (o r : Int) (d : Bool) : TRI :=
  if k = 3 then (if ((rputF R.s g).2.2.1 : Int) = 0 then (([], (rputF R.s g).2.2.1, ()), { R with s := (rputF R.s g).1, owed := true, st := s, peer := p }) else (([], (rputF R.s g).2.2.1, ()), { R with s := (rputF R.s g).1, st := s, peer := p }))
  else if k = 4 then gFin { R with w := (refAck R.w o r d).1, st := s, peer := p } [] (refAck R.w o r d).2
  else (([], 0, ()), { R with st := s, peer := p })
abbrev gtl (R : RE) (p k : Int) (g : Seg) (o r : Int) (d : Bool) : TRI :=
  if k = 3 then (if ((rputF R.s g).2.2.1 : Int) = 0 then (([], (rputF R.s g).2.2.1, ()), { R with s := (rputF R.s g).1, owed := true, st := 2, peer := p }) else (([], (rputF R.s g).2.2.1, ()), { R with s := (rputF R.s g).1, st := 2, peer := p }))
  else if k = 4 then gF2 { R with w := (refAck R.w o r d).1, st := 2, peer := p } [] (refAck R.w o r d).2
  else (([], 0, ()), { R with st := 2, peer := p })
abbrev g2 (R : RE) (m : Msg) : TRI :=
  if R.st = 0 then vno R 6
  else if m.1 = 5 then (([], 0, ()), (rlosF R m).2)
  else if R.st = 1 then gtl R m.2.1 m.1 m.2.2.2.1 m.2.2.2.2.1 m.2.2.2.2.2.1 m.2.2.2.2.2.2
  else gtk R R.st R.peer m.1 m.2.2.2.1 m.2.2.2.2.1 m.2.2.2.2.2.1 m.2.2.2.2.2.2
abbrev g1 (R : RE) (m : Msg) : TRI :=
  if R.st = 3 then gRef R m 14
  else if m.1 = 1 then (if R.peer = 0 then gF2 { R with peer := m.2.1, st := 2 } [(2, R.mine, m.2.1, (0, [], false), 0, 0, false)] 0 else (([(2, R.mine, m.2.1, (0, [], false), 0, 0, false)], 0, ()), R))
  else if m.2.2.1 = R.mine then g2 R m else gRef R m 17
def rrcG (R : RE) (m : Msg) : TRI :=
  if inB m.1 1 5 = false then vno R 16
  else if inB m.2.1 1 1099511627775 = false then vno R 2 else if inB m.2.2.1 0 1099511627775 = false then vno R 2
  else if m.2.1 < R.peer then vno R 17
  else if R.peer = 0 then g1 R m
  else if R.peer < m.2.1 then gRef (rlosF R m).2 m 14 else g1 R m
end Go.Proofs.Ytldabjgegpmmiaa
