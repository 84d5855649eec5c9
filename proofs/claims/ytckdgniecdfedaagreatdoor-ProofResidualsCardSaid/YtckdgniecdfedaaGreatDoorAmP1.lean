/- Piece 1 of head. -/
import Derived.Test.YtckdgniecdfedaaGreatDoorAmSnap
open Go Go.AM Go.Proofs Go.Proofs.YtckdgniecdfedaaGreatDoor
namespace Go.AM
theorem piece1:pieceK Tryz.prog flats orders 100000 400 8 (fun b=>takeC 1 (dropC 9 b)) snap1 (cutK snap2)=.ok:=by kernel_rfl
end Go.AM
