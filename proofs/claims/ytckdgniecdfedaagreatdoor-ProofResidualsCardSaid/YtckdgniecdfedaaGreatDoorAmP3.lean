/- Piece 3 of head. -/
import Derived.Test.YtckdgniecdfedaaGreatDoorAmSnap
open Go Go.AM Go.Proofs Go.Proofs.YtckdgniecdfedaaGreatDoor
namespace Go.AM
theorem piece3:pieceK Tryz.prog flats orders 100000 400 8 (fun b=>takeC 6 (dropC 12 b)) snap3 (cutK snap4)=.ok:=by kernel_rfl
end Go.AM
