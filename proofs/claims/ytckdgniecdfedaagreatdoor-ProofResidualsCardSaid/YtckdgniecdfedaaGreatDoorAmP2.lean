/- Piece 2 of head. -/
import Derived.Test.YtckdgniecdfedaaGreatDoorAmSnap
open Go Go.AM Go.Proofs Go.Proofs.YtckdgniecdfedaaGreatDoor
namespace Go.AM
theorem piece2:pieceK Tryz.prog flats orders 100000 400 8 (fun b=>takeC 2 (dropC 10 b)) snap2 (cutK snap3)=.ok:=by kernel_rfl
end Go.AM
