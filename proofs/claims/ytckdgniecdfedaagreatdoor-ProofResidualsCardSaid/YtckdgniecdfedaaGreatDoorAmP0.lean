/- Piece 0 of head. -/
import Derived.Test.YtckdgniecdfedaaGreatDoorAmSnap
open Go Go.AM Go.Proofs Go.Proofs.YtckdgniecdfedaaGreatDoor
namespace Go.AM
theorem piece0:pieceK Tryz.prog flats orders 100000 400 8 (fun b=>takeC 9 (dropC 0 b)) snap0 (cutK snap1)=.ok:=by kernel_rfl
end Go.AM
