/- What Encode hands back. -/
import Derived.Test.YtckdgniecdfedaaGreatDoorMgI
import Derived.Test.YtckdgniecdfedaaGreatDoorEncC1
import Derived.Test.YtckdgniecdfedaaGreatDoorEncC2
import Derived.Test.YtckdgniecdfedaaGreatDoorEncC3
import Derived.Test.YtckdgniecdfedaaGreatDoorEncC4
namespace Go.Proofs.YtckdgniecdfedaaGreatDoor
open Go.RowKit
theorem encode_any (w : World) (x : Cv) (c : Cl) (h : ClV w x c) (hn : c.args.nodes + 1 + c.res.nodes < 33554432) : Calls Tryz.prog 23 #[.agg (x.cells c)] w (Coded w c) := by
  by_cases k1 : c.kind = 1
  · exact encode_1 w x c h hn k1
  by_cases k2 : c.kind = 2
  · exact encode_2 w x c h hn k2
  by_cases k3 : c.kind = 3
  · exact encode_3 w x c h hn k3
  by_cases k4 : c.kind = 4
  · exact encode_4 w x c h hn k4
  · exact encode_0 w x c h hn k1 k2 k3 k4
end Go.Proofs.YtckdgniecdfedaaGreatDoor
