/-
  Layer 47: what the reference's Receive computes (plain).
-/
import Derived.Test.YtldabjgegpmmiaaRgt
namespace Go.Proofs.Ytldabjgegpmmiaa
set_option linter.all false
set_option linter.unusedVariables false
set_option linter.unusedSimpArgs false
set_option linter.unusedSectionVars false
open Go.RowKit Go.Sx
abbrev TRI := TLI × RE
abbrev vno (R : RE) (n : Int) : TRI := (([], n, ()), R)
abbrev vrf (i k mi n : Int) (R : RE) : TRI := if k = 5 then (([], n, ()), R) else (([(5, i, mi, (0, [], false), 0, 0, false)], n, ()), R)
abbrev vls (R : RE) (k mi n : Int) : TRI := if R.st = 4 then vrf R.mine k mi n { R with peer := mi } else vrf R.mine k mi n { R with peer := mi, st := 3 }
abbrev vfi (R : RE) (l : List Msg) (n s : Int) (b e : Bool) (g : Int → RE) : TRI :=
  if s = 2 then (if b = true then (if e = true then ((l, n, ()), g 4) else ((l, n, ()), g s)) else ((l, n, ()), g s)) else ((l, n, ()), g s)
abbrev vtk (R : RE) (s p k : Int) (g : Seg) (o r : Int) (d : Bool) : TRI :=
  if k = 3 then (if ((rputF R.s g).2.2.1 : Int) = 0 then (([], (rputF R.s g).2.2.1, ()), { R with s := (rputF R.s g).1, owed := true, st := s, peer := p }) else (([], (rputF R.s g).2.2.1, ()), { R with s := (rputF R.s g).1, st := s, peer := p }))
  else if k = 4 then vfi R [] (refAck R.w o r d).2 s (refAck R.w o r d).1.fin R.ended (fun s' => { R with w := (refAck R.w o r d).1, st := s', peer := p })
  else (([], 0, ()), { R with st := s, peer := p })
abbrev v2 (R : RE) (m : Msg) : TRI :=
  if R.st = 0 then vno R 6
  else if m.1 = 5 then (if R.st = 4 then vno { R with peer := m.2.1 } 0 else vno { R with peer := m.2.1, st := 3 } 0)
  else if R.st = 1 then vtk R 2 m.2.1 m.1 m.2.2.2.1 m.2.2.2.2.1 m.2.2.2.2.2.1 m.2.2.2.2.2.2
  else vtk R R.st R.peer m.1 m.2.2.2.1 m.2.2.2.2.1 m.2.2.2.2.2.1 m.2.2.2.2.2.2
abbrev v1 (R : RE) (m : Msg) : TRI :=
  if R.st = 3 then vrf R.mine m.1 m.2.1 14 R
  else if m.1 = 1 then (if R.peer = 0 then (if R.w.fin = true then (if R.ended = true then (([(2, R.mine, m.2.1, (0, [], false), 0, 0, false)], 0, ()), { R with peer := m.2.1, st := 4 }) else (([(2, R.mine, m.2.1, (0, [], false), 0, 0, false)], 0, ()), { R with peer := m.2.1, st := 2 })) else (([(2, R.mine, m.2.1, (0, [], false), 0, 0, false)], 0, ()), { R with peer := m.2.1, st := 2 })) else (([(2, R.mine, m.2.1, (0, [], false), 0, 0, false)], 0, ()), R))
  else if m.2.2.1 = R.mine then v2 R m else vrf R.mine m.1 m.2.1 17 R
def rrcF (R : RE) (m : Msg) : TRI :=
  if m.1 < 1 then vno R 16 else if 5 < m.1 then vno R 16
  else if m.2.1 < 1 then vno R 2 else if 1099511627775 < m.2.1 then vno R 2 else if m.2.2.1 < 0 then vno R 2 else if 1099511627775 < m.2.2.1 then vno R 2
  else if m.2.1 < R.peer then vno R 17
  else if R.peer = 0 then v1 R m
  else if R.peer < m.2.1 then vls R m.1 m.2.1 14 else v1 R m
end Go.Proofs.Ytldabjgegpmmiaa
