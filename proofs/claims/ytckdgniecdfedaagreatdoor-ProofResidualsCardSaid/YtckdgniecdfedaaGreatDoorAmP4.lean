/- Piece 4 of head. -/
import Derived.Test.YtckdgniecdfedaaGreatDoorAmSnap
open Go Go.AM Go.Proofs Go.Proofs.YtckdgniecdfedaaGreatDoor
namespace Go.AM
theorem piece4:pieceK Tryz.prog flats orders 100000 400 8 (fun b=>dropC 18 b) snap4 lastK=.ok:=by kernel_rfl
end Go.AM
