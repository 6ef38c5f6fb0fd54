import Derived.Test.YtgfaonnajdoeoaaTwD
namespace Go.Proofs.Try
open Go Go.Vm
set_option maxRecDepth 20000
set_option maxHeartbeats 2000000
def straightB (a m b : Mk) : Bool := (m.l - a.l) * (b.m - a.m) == (b.l - a.l) * (m.m - a.m)
def simpGo : Option Mk → List Mk → List Mk
  | _, [] => []
  | none, m :: r => m :: simpGo (some m) r
  | some _, [m] => [m]
  | some a, m :: b :: r => if straightB a m b then simpGo (some a) (b :: r) else m :: simpGo (some m) (b :: r)
end Go.Proofs.Try
