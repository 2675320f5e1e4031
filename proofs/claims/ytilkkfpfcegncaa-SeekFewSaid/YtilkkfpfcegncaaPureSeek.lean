/- The program's peek and seek: plain functions. -/
import Derived.Test.YtilkkfpfcegncaaNum
set_option linter.unusedVariables false
namespace Go.Proofs.Ytilkkfpfcegncaa.R
/-- The program's peek: which access is next, what it reads, where the Dcss is, what it came to. -/
structure IP where
  next : Int
  cell : Int
  at_ : Int
  word : Int
def IP.fin (f : IP) (x : Int) : IP := { f with word := x, next := 3 }
def IP.step (f : IP) (q : Int) : IP :=
  if f.next = 0 then (if kind q = 5 then { f with at_ := addr q, next := 1, cell := addr q + 4 } else f.fin q)
  else if f.next = 1 then { f with next := 2, cell := if q = 1 then f.at_ + 3 else f.at_ + 2 }
  else if f.next = 2 then f.fin q
  else f
/-- The program's seek: which is next, the key, the Inner, the record that was met, the value; its route; its peek, if it has one. -/
structure IK where
  next : Int
  k : Int
  n : Int
  at_ : Int
  value : Int
  there : Bool
  route : IR
  has : Bool
  peek : IP
def IK.enter (f : IK) (n : Int) : IK := { f with next := 0, n := n, route := ⟨0, n, f.k, 0, 0, 0, 0⟩ }
def IK.meet (f : IK) (x : Int) : IK :=
  if kind x = 2 then { f with at_ := addr x, next := 2 }
  else if kind x = 3 then ({ f with at_ := addr x } : IK).enter (addr x)
  else if kind x = 4 then { f with at_ := addr x, next := 4 }
  else { f with at_ := addr x, next := 5 }
/-- Where it reads next. -/
def IK.addr (f : IK) : Int := if f.next = 0 then f.route.addr else if f.next = 1 then f.peek.cell else if f.next = 3 then f.at_ + 1 else f.at_
def IK.step (f : IK) (q : Int) : IK :=
  if f.next = 0 then (if (f.route.step q).next = 6 then { f with route := f.route.step q, next := 1, has := true, peek := ⟨0, childAt f.n (f.route.step q).degree (f.route.step q).child, 0, 0⟩ } else { f with route := f.route.step q })
  else if f.next = 1 then (if (f.peek.step q).next = 3 then ({ f with peek := f.peek.step q } : IK).meet (f.peek.step q).word else { f with peek := f.peek.step q })
  else if f.next = 2 then (if q = f.k then { f with next := 3 } else { f with next := 5 })
  else if f.next = 3 then { f with value := q, there := true, next := 5 }
  else if f.next = 4 then f.enter (Go.Proofs.Ytilkkfpfcegncaa.R.addr q)
  else f
def IK.start (k : Int) : IK := ⟨0, k, 1, 0, 0, false, ⟨0, 1, k, 0, 0, 0, 0⟩, false, ⟨0, 0, 0, 0⟩⟩
end Go.Proofs.Ytilkkfpfcegncaa.R
