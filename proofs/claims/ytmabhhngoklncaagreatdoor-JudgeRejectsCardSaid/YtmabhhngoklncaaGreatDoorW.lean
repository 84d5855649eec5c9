/- The orders of the regions of head that ask for theirs. -/
import Derived.Test.YtmabhhngoklncaaGreatDoorV
import Derived.Test.YtmabhhngoklncaaGreatDoorRows
import Derived.ProofKit
import Derived.OpenShut
import Derived.Lib.LaidU8
set_option maxRecDepth 100000
set_option maxHeartbeats 40000000
set_option linter.all false
open Go.Proofs.Tryz renaming prog->rA
open Go Go.AM Go.Proofs.YtmabhhngoklncaaGreatDoor Go.Proofs Go.ChangeShapes Go.WideShapes Go.ChangeAt Go.RowKit
namespace Go.AM
def pu:Nat->Nat->List DStep->List DStep
|_,0,r=>r
|a,n+1,r=>.pure a::pu (a+1) n r
def al (i:Nat)(r:List DStep):List DStep:=.alloc i::r
def ef (i:Nat)(r:List DStep):List DStep:=.eff i [] []::r
def eg (i:Nat)(a b:List Nat)(r:List DStep):List DStep:=.eff i a b::r
def tw (i j:Nat)(a b:List Nat)(r:List DStep):List DStep:=.two i j a b::r
abbrev qU:=List (Nat×List (Nat×(Nat×List DStep)))
def zSh:{l:qU//l=[(4,[(4,1,pu 0 2 (al 8 (eg 2 [] [1,0] (eg 3 [] [1,0] (ef 4 (pu 5 3 (eg 9 [8] [7] (pu 10 1 [])))))))),(9,2,al 0 (pu 1 2 (pu 4 2 (al 7 (eg 3 [0] [5,4] (pu 6 1 (eg 8 [7] [] [])))))))]),
 (7,[(9,0,pu 0 16 [])]),
 (8,[(5,0,pu 0 5 (eg 5 [] [3,2] (eg 6 [] [3] (ef 7 []))))]),
 (9,[(1,0,pu 0 2 (ef 2 (pu 3 3 (ef 6 (pu 7 6 (eg 13 [] [11,10] (pu 14 6 (eg 20 [] [18,17] (pu 21 2 [])))))))))]),
 (11,[(1,0,pu 0 2 (ef 2 (pu 3 3 (ef 6 (pu 7 6 (eg 13 [] [11,10] (pu 14 6 (eg 20 [] [18,17] (pu 21 2 [])))))))))]),
 (15,[(6,0,pu 0 9 [])]),
 (19,[(1,0,pu 0 16 []),(5,0,pu 0 12 [])]),
 (20,[(16,1,pu 0 6 (eg 6 [] [4,3,2,1,0] (al 7 (eg 8 [7] [0] (pu 9 2 (ef 11 []))))))]),
 (29,[(5,1,pu 0 4 (pu 5 8 (eg 4 [] [12,11,10,9,8,7,6,5,0] (pu 13 1 (al 14 (eg 15 [14] [] (ef 16 [])))))))]),
 (30,[(1,0,pu 0 5 (eg 5 [] [3] (pu 6 9 (eg 15 [] [13] (pu 16 2 []))))),(10,0,pu 0 13 (ef 13 [])),(11,0,pu 0 10 (ef 10 []))]),
 (31,[(33,0,pu 0 8 (eg 8 [] [3,2,1,0] (pu 9 1 (ef 10 (pu 11 1 [])))))]),
 (35,[(5,1,pu 0 8 (pu 9 1 (eg 8 [] [9,0] (pu 10 1 (al 11 (eg 12 [11] [] (ef 13 [])))))))]),
 (38,[(15,0,pu 0 10 (ef 10 (pu 11 1 [])))]),
 (43,[(5,1,pu 0 3 (eg 3 [] [1,0] (al 4 (eg 5 [4] [] (pu 6 1 (ef 7 [])))))),(6,1,pu 0 5 (eg 5 [] [1,0] (al 6 (eg 7 [6] [] (pu 8 1 (ef 9 []))))))])]}:=⟨_,by simp only[pu,al,ef,eg,tw,Nat.reduceAdd];exact rfl⟩
def zSQ:qU:=zSh.1
def zS9:{l:qU//l=[(44,[(5,1,pu 0 3 (eg 3 [] [1,0] (al 4 (eg 5 [4] [] (pu 6 1 (ef 7 [])))))),(6,1,pu 0 3 (eg 3 [] [1,0] (al 4 (eg 5 [4] [] (pu 6 1 (ef 7 [])))))),(7,1,pu 0 3 (eg 3 [] [1,0] (al 4 (eg 5 [4] [] (pu 6 1 (ef 7 []))))))]),
 (50,[(24,0,pu 1 3 (eg 0 [] [3,2,1] (ef 4 (ef 5 [])))),(25,0,pu 1 3 (eg 0 [] [3,2,1] (ef 4 (ef 5 []))))]),
 (54,[(6,0,pu 0 5 (ef 5 [])),(7,0,pu 0 7 (ef 7 []))]),
 (58,[(8,1,pu 0 9 (al 9 (pu 10 1 (eg 11 [9] [] [])))),(13,1,pu 0 4 (pu 5 8 (al 14 (eg 4 [] [12,11,10,9,8,7,6,5] (pu 13 1 (eg 15 [14] [] [])))))),(31,1,pu 0 12 (pu 13 1 (al 14 (eg 12 [] [13,1,0] (eg 15 [14] [] (pu 16 1 (pu 18 1 (tw 17 19 [] [18] (eg 19 [] [16] [])))))))))]),
 (59,[(11,1,pu 0 3 (eg 3 [] [1,0] (al 4 (eg 5 [4] [] (pu 6 1 (ef 7 []))))))]),
 (60,[(1,2,pu 0 10 (al 11 (al 14 (eg 10 [] [4,3,2,1,0] (eg 12 [11] [4,3,2,1,0] (pu 13 1 (eg 15 [14] [] []))))))),(14,0,pu 0 7 (pu 9 1 (eg 7 [] [9] (pu 8 1 [])))),(29,1,pu 0 6 (al 6 (eg 7 [6] [0] (pu 8 2 (ef 10 []))))),(36,1,pu 0 6 (al 6 (eg 7 [6] [0] (pu 8 2 (ef 10 [])))))]),
 (61,[(2,1,pu 0 2 (al 2 (pu 3 2 (eg 5 [2] [] []))))]),
 (62,[(5,0,pu 0 8 (pu 9 9 (eg 8 [] [17,16,15,14,13,12,11,10,9,5,4,3,2,1,0] (pu 18 2 (ef 20 [])))))]),
 (69,[(6,1,pu 0 15 (al 15 (eg 16 [15] [] []))),(7,0,pu 0 14 []),(10,1,pu 0 17 (al 17 (eg 18 [17] [] [])))]),
 (71,[(6,1,pu 0 9 (al 9 (eg 10 [9] [] [])))]),
 (74,[(7,1,pu 0 11 (al 11 (eg 12 [11] [] [])))]),
 (80,[(5,1,pu 0 8 (eg 8 [] [4,3,2,1,0] (al 9 (eg 10 [9] [0] (pu 11 2 (ef 13 []))))))]),
 (82,[(14,2,pu 0 2 (al 5 (eg 2 [] [0] (al 3 (pu 4 1 (eg 6 [3,5] [] []))))))]),
 (84,[(1,0,pu 0 9 []),(2,4,pu 0 3 (al 3 (pu 4 1 (al 5 (pu 6 1 (al 7 (pu 8 1 (al 9 (pu 10 1 []))))))))),(7,0,pu 0 21 (ef 21 [])),(14,1,pu 0 13 (al 13 (eg 14 [13] [4,3,2,1,0] (pu 15 1 (ef 16 [])))))])]}:=⟨_,by simp only[pu,al,ef,eg,tw,Nat.reduceAdd];exact rfl⟩
def zSm:qU:=zS9.1
def zS5:{l:qU//l=[(85,[(21,0,pu 0 18 (eg 18 [] [6,5,4,3,2,1,0] (ef 19 (pu 20 6 []))))]),
 (89,[(5,1,pu 0 1 (pu 2 1 (pu 4 1 (pu 6 1 (al 9 (eg 1 [] [6,4,2] (eg 3 [] [6,4] (eg 5 [] [6] (ef 7 (pu 8 1 (eg 10 [9] [] []))))))))))),(9,1,pu 0 5 (eg 5 [] [1,0] (al 6 (eg 7 [6] [] (pu 8 1 (ef 9 []))))))]),
 (90,[(1,0,pu 0 18 []),(5,0,pu 0 15 (ef 15 (pu 16 1 [])))]),
 (101,[(13,0,pu 0 11 [])]),
 (116,[(4,0,pu 0 11 (ef 11 (pu 12 1 [])))]),
 (118,[(3,0,pu 0 14 (eg 14 [] [11,10,9,8,7,6,5,4,3,2,1,0] (ef 15 (pu 16 5 [])))),(7,1,pu 0 5 (pu 6 4 (eg 5 [] [9,8,7,6,0] (eg 10 [] [0] (pu 11 1 (al 12 (eg 13 [12] [] (ef 14 []))))))))]),
 (122,[(1,0,pu 0 7 (eg 7 [] [5,3,2] (pu 8 1 (ef 9 [])))),(9,0,pu 0 13 (ef 13 [])),(11,0,pu 0 9 []),(19,0,pu 0 5 (ef 5 (pu 6 3 (ef 9 []))))]),
 (124,[(9,0,pu 0 15 []),(11,0,pu 0 11 []),(13,0,pu 0 11 (ef 11 []))]),
 (126,[(1,1,pu 0 4 (pu 5 4 (pu 10 6 (pu 17 4 (pu 22 4 (eg 4 [] [25,24,23,22,20,19,18,17,15,14,13,12,11,10,8,7,6,5] (eg 9 [] [25,24,23,22,20,19,18,17,15,14,13,12,11,10] (eg 16 [] [25,24,23,22,20,19,18,17] (eg 21 [] [25,24,23,22] (ef 26 (al 27 (eg 28 [27] [] (pu 29 1 [])))))))))))))]),
 (133,[(3,0,pu 0 14 [])]),
 (134,[(1,0,pu 0 5 (eg 5 [] [3] (pu 6 12 []))),(7,0,pu 0 9 (ef 9 []))]),
 (137,[(1,0,pu 0 12 (pu 15 4 (eg 12 [] [18,17,16,15,3,2,1,0] (pu 13 2 (pu 19 2 [])))))]),
 (146,[(1,2,pu 0 6 (pu 7 6 (pu 14 2 (eg 6 [] [15,14,12,11,10,9,8,7] (eg 13 [] [15,14] (ef 16 (al 17 (eg 18 [17] [] (al 19 (eg 20 [19] [] (ef 21 [])))))))))))]),
 (147,[(1,2,pu 0 6 (pu 7 6 (pu 14 2 (eg 6 [] [15,14,12,11,10,9,8,7] (eg 13 [] [15,14] (ef 16 (al 17 (eg 18 [17] [] (al 19 (eg 20 [19] [] (ef 21 [])))))))))))])]}:=⟨_,by simp only[pu,al,ef,eg,tw,Nat.reduceAdd];exact rfl⟩
def zSV:qU:=zS5.1
def zSq:{l:qU//l=[(148,[(2,0,pu 0 10 (ef 10 (ef 11 [])))]),
 (152,[(1,0,pu 0 17 (eg 17 [] [3,2,1,0] (pu 18 3 [])))]),
 (154,[(3,0,pu 0 5 (eg 5 [] [3,2,1,0] (pu 6 3 [])))]),
 (158,[(6,0,pu 0 5 (ef 5 (ef 6 []))),(16,0,pu 0 14 (ef 14 []))]),
 (160,[(2,0,pu 0 11 []),(7,0,pu 0 9 (ef 9 (pu 10 1 [])))]),
 (163,[(2,0,pu 0 22 []),(4,0,pu 0 30 [])]),
 (170,[(2,1,pu 0 3 (al 3 (eg 4 [3] [] (pu 5 1 (tw 6 7 [] [] (eg 7 [] [5] []))))))]),
 (172,[(7,0,pu 0 5 (ef 5 []))]),
 (177,[(7,1,pu 0 8 (eg 8 [] [4,3,2,1,0] (al 9 (eg 10 [9] [0] (pu 11 2 (ef 13 []))))))]),
 (180,[(7,0,pu 0 7 (eg 7 [] [3,2,1,0] (ef 8 [])))]),
 (189,[(1,0,pu 0 10 (ef 10 (pu 11 1 [])))]),
 (191,[(1,1,pu 0 13 (al 13 (eg 14 [13] [] []))),(14,1,pu 0 9 (eg 9 [] [1,0] (al 10 (eg 11 [10] [] (pu 12 1 (ef 13 []))))))]),
 (194,[(5,0,pu 0 9 (ef 9 []))]),
 (201,[(11,0,pu 0 10 (ef 10 (pu 11 1 [])))])]}:=⟨_,by simp only[pu,al,ef,eg,tw,Nat.reduceAdd];exact rfl⟩
def zTK:qU:=zSq.1
def zTX:{l:qU//l=[(210,[(5,1,pu 0 6 (al 6 (eg 7 [6] [] (pu 8 1 [])))),(10,0,pu 0 12 []),(11,0,pu 0 14 (eg 14 [] [11,1] (pu 15 2 (ef 17 [])))),(17,1,pu 0 10 (al 10 (eg 11 [10] [] (ef 12 []))))]),
 (215,[(5,0,pu 0 4 (ef 4 (pu 5 2 (pu 8 2 (eg 7 [] [9,8] (ef 10 (pu 11 6 (pu 18 3 (eg 17 [] [20,19,18] (ef 21 (pu 22 2 [])))))))))))]),
 (216,[(3,0,pu 0 7 (ef 7 (pu 8 1 [])))]),
 (220,[(4,0,pu 0 14 (ef 14 (pu 15 2 [])))]),
 (237,[(1,0,pu 0 10 []),(2,0,pu 0 8 (ef 8 (pu 9 1 []))),(3,0,pu 0 10 []),(5,0,pu 0 10 []),(7,0,pu 0 10 []),(9,0,pu 0 10 (ef 10 (pu 11 1 [])))]),
 (240,[(6,0,pu 0 9 [])]),
 (241,[(7,0,pu 0 6 (ef 6 (pu 7 11 (ef 18 (pu 19 3 []))))),(19,0,pu 0 1 (pu 2 2 (eg 1 [] [3,2] (ef 4 (ef 5 (ef 6 [])))))),(28,0,pu 0 6 (eg 6 [] [0] (ef 7 []))),(30,1,pu 0 5 (pu 6 2 (eg 5 [] [7,6] (ef 8 (al 9 (eg 10 [9] [] (pu 11 1 []))))))),(31,0,pu 0 6 (eg 6 [] [0] (ef 7 []))),(33,1,pu 0 5 (pu 6 5 (pu 12 2 (eg 5 [] [13,12,10,9,8,7,6] (eg 11 [] [13,12] (ef 14 (al 15 (eg 16 [15] [] (ef 17 (pu 18 1 []))))))))))]),
 (255,[(1,0,pu 0 9 [])]),
 (271,[(6,0,pu 0 10 (ef 10 []))]),
 (273,[(5,0,pu 0 6 (ef 6 (pu 7 1 []))),(8,0,pu 0 11 (eg 11 [] [0] (pu 12 4 [])))]),
 (301,[(4,0,pu 0 14 (ef 14 (pu 15 2 [])))]),
 (357,[(1,0,pu 0 4 (ef 4 (pu 5 6 (ef 11 (pu 12 11 (ef 23 (pu 24 2 []))))))),(8,0,pu 0 5 (ef 5 (pu 6 4 [])))]),
 (360,[(5,0,pu 0 15 (pu 16 8 (eg 15 [] [23,22,21,20,19,18,17,16,1,0] (pu 24 2 (ef 26 [])))))]),
 (362,[(6,0,pu 0 12 (ef 12 (pu 13 3 []))),(8,0,pu 0 7 (ef 7 [])),(10,1,pu 0 8 (al 11 (eg 8 [] [3,2,1,0] (eg 9 [] [3,2,1,0] (pu 10 1 (eg 12 [11] [] [])))))),(11,0,pu 0 11 [])])]}:=⟨_,by simp only[pu,al,ef,eg,tw,Nat.reduceAdd];exact rfl⟩
def zTY:qU:=zTX.1
def zTO:{l:qU//l=[(366,[(12,1,pu 0 3 (eg 3 [] [1,0] (al 4 (eg 5 [4] [] (pu 6 1 (ef 7 []))))))]),
 (367,[(13,0,pu 0 17 [])]),
 (368,[(2,0,pu 0 31 []),(4,0,pu 0 22 [])]),
 (369,[(1,1,pu 0 4 (pu 5 4 (pu 10 6 (pu 17 4 (pu 22 4 (eg 4 [] [25,24,23,22,20,19,18,17,15,14,13,12,11,10,8,7,6,5] (eg 9 [] [25,24,23,22,20,19,18,17,15,14,13,12,11,10] (eg 16 [] [25,24,23,22,20,19,18,17] (eg 21 [] [25,24,23,22] (ef 26 (al 27 (eg 28 [27] [] (pu 29 1 [])))))))))))))]),
 (372,[(1,0,pu 0 6 (pu 8 1 (eg 6 [] [8] (pu 7 1 [])))),(5,0,pu 0 5 (ef 5 (pu 6 1 []))),(6,0,pu 0 8 (pu 10 1 (eg 8 [] [10] (pu 9 1 [])))),(9,0,pu 0 8 (ef 8 (pu 9 5 []))),(10,0,pu 0 9 (pu 10 1 (eg 9 [] [10,6,5,4,3,2,1,0] (pu 11 7 [])))),(11,0,pu 0 25 [])]),
 (380,[(6,0,pu 0 2 (ef 2 (pu 3 6 (ef 9 (pu 10 2 [])))))]),
 (381,[(6,0,pu 0 5 (ef 5 (pu 6 1 []))),(7,1,pu 0 6 (al 6 (eg 7 [6] [] (pu 8 1 (pu 10 2 (tw 9 12 [] [11,10] (eg 12 [] [8] [])))))))]),
 (382,[(1,0,pu 0 11 []),(13,0,pu 0 6 (ef 6 []))]),
 (383,[(1,0,pu 0 11 []),(28,0,pu 0 6 (ef 6 []))]),
 (389,[(1,0,pu 0 6 (pu 7 4 (eg 6 [] [10,9,8,7] (ef 11 (ef 12 (pu 13 1 []))))))]),
 (390,[(1,0,pu 0 11 []),(7,0,pu 0 5 (pu 6 1 (eg 5 [] [6,1,0] (pu 7 1 (ef 8 []))))),(9,0,pu 0 6 (ef 6 []))]),
 (393,[(1,1,pu 0 4 (pu 5 4 (pu 10 4 (pu 15 4 (pu 20 6 (pu 27 4 (eg 4 [] [30,29,28,27,25,24,23,22,21,20,18,17,16,15,13,12,11,10,8,7,6,5] (eg 9 [] [30,29,28,27,25,24,23,22,21,20,18,17,16,15,13,12,11,10] (eg 14 [] [30,29,28,27,25,24,23,22,21,20,18,17,16,15] (eg 19 [] [30,29,28,27,25,24,23,22,21,20] (eg 26 [] [30,29,28,27] (ef 31 (al 32 (eg 33 [32] [] (pu 34 1 [])))))))))))))))]),
 (394,[(5,0,pu 0 7 (ef 7 []))]),
 (396,[(10,0,pu 0 6 (eg 6 [] [2,1,0] (pu 7 1 (ef 8 []))))])]}:=⟨_,by simp only[pu,al,ef,eg,tw,Nat.reduceAdd];exact rfl⟩
def zSg:qU:=zTO.1
def zBo:{l:qU//l=[(397,[(6,0,pu 0 5 (ef 5 (pu 6 1 []))),(11,1,pu 0 8 (ef 8 (pu 9 1 (al 10 (pu 11 1 []))))),(13,0,pu 0 6 (pu 7 1 (eg 6 [] [7] (ef 8 (pu 9 1 []))))),(14,0,pu 0 7 (eg 7 [] [0] (ef 8 (ef 9 (pu 10 1 []))))),(16,0,pu 0 7 (eg 7 [] [0] (ef 8 (ef 9 (pu 10 1 []))))),(17,0,pu 0 6 (pu 7 1 (eg 6 [] [7] (ef 8 (pu 9 1 [])))))]),
 (428,[(5,0,pu 0 12 (pu 13 8 (eg 12 [] [20,19,18,17,16,15,14,13,1,0] (pu 21 2 (ef 23 [])))))]),
 (429,[(1,1,pu 0 10 (al 10 (eg 11 [10] [9,8,7,6,5] (pu 12 1 []))))]),
 (432,[(5,0,pu 0 13 (pu 14 1 (eg 13 [] [14] (pu 15 1 []))))]),
 (433,[(6,0,pu 0 9 []),(7,0,pu 0 10 [])]),
 (434,[(2,0,pu 0 4 (ef 4 (pu 5 6 (ef 11 (pu 12 11 (ef 23 (pu 24 2 []))))))),(11,0,pu 0 11 []),(17,1,pu 0 6 (al 10 (ef 6 (pu 7 3 (eg 11 [10] [9] (pu 12 1 [])))))),(18,0,pu 0 11 (ef 11 (pu 12 2 [])))]),
 (435,[(1,1,pu 0 2 (pu 3 1 (al 5 (eg 2 [] [3] (ef 4 (eg 6 [5] [] []))))))]),
 (436,[(19,2,pu 0 6 (al 9 (eg 6 [] [3,2,1,0] (al 7 (pu 8 1 (eg 10 [7,9] [] [])))))),(20,1,pu 0 5 (al 5 (pu 6 1 (eg 7 [5] [] []))))]),
 (437,[(8,0,pu 0 4 (eg 4 [] [2,1,0] (pu 5 1 (ef 6 []))))]),
 (438,[(15,0,pu 0 5 (eg 5 [] [2,1,0] (pu 6 1 (ef 7 []))))])]}:=⟨_,by simp only[pu,al,ef,eg,tw,Nat.reduceAdd];exact rfl⟩
def zAp:qU:=zBo.1
def orders:qU:=zSQ++(zSm++(zSV++(zTK++(zTY++(zSg++(zAp))))))
noncomputable def globs:List (Nat×Blk):=[(0,.cells (vO (H:=Unit) 3 Rows.laid_foresight_signal_keys) 0 false 3),(1,.cells (vO (H:=Unit) 3 Rows.laid_foresight_formula_forms) 0 false 3),(2,.cells (vO (H:=Unit) 3 Rows.laid_math_bits_deBruijn32tab) 0 false 3)]
noncomputable def flats:List Nat:=[443,438,424,204,191,186,183,445]
noncomputable def sI (n:Int):AV:=.int .i64 n
noncomputable def sL (l:List Int):List AV:=List.rec (motive:=fun _=>List AV) [] (fun n _ ih=>sI n::ih) l
noncomputable def sE0:Nat×Blk:=(104,.cells [(sI 10),(.str []),(sI 0),(sI 0),(.sl 92 0 2 (some 2))] 33 false 0)
noncomputable def sE1:Nat×Blk:=(84,.cells [(sI 4),(.str []),(sI 0),(sI 0),(.sl 67 0 1 (some 1)),(sI 9),(.str []),(sI 0),(sI 0),(.sl 81 0 2 (some 2))] 33 true 0)
noncomputable def sE2:Nat×Blk:=(92,.cells [(sI 2),(.str []),(sI 0),(sI 0),.nils,(sI 6),(.str []),(sI 0),(sI 0),(.sl 84 0 2 none)] 33 false 0)
noncomputable def sE3:Nat×Blk:=(81,.cells [(sI 1),(.str []),(sI 0),(sI 0),.nils,(sI 3),(.str [103]),(sI 1),(sI 0),.nils] 33 false 0)
noncomputable def sE4:Nat×Blk:=(67,.cells [(sI 3),(.str [114]),(sI 1),(sI 0),.nils] 33 false 0)
noncomputable def sE5:Nat×Blk:=(1740,.cells (sL [1,2,1,114,1,2,1,103,0,2,10,0,0,0,2,2,0,0,0,0,6,0,0,0,2,4,0,0,0,1,3,1,114,1,0,0,9,0,0,0,2,1,0,0,0,0,3,1,103,1,0,0,2,2,0,1,0,0,1,0,1,0,0,1,0,0,0]) 3 true 0)
noncomputable def sE6:Nat×Blk:=(1741,.cells [(.sl 1740 0 67 none),(sI 19834)] 24 false 0)
noncomputable def sE7:Nat×Blk:=(3446,.cells [(.sl 3445 0 161 none),(sI 30654)] 24 false 0)
noncomputable def sE8:Nat×Blk:=(3445,.cells (sL [4,2,1,114,1,2,1,103,0,2,10,0,0,0,2,2,0,0,0,0,6,0,0,0,2,4,0,0,0,1,3,1,114,1,0,0,9,0,0,0,2,1,0,0,0,0,3,1,103,1,0,0,2,1,2,2,5,0,0,0,2,9,0,0,0,2,1,0,0,0,0,3,1,103,1,0,0,10,0,0,0,2,2,0,0,0,0,6,0,0,0,2,4,0,0,0,1,3,1,114,1,0,0,9,0,0,0,2,1,0,0,0,0,3,1,103,1,0,0,10,0,0,0,2,2,0,0,0,0,6,0,0,0,2,4,0,0,0,1,3,1,114,1,0,0,9,0,0,0,2,1,0,0,0,0,3,1,103,1,0,0]) 3 true 0)
noncomputable def sE9:Nat×Blk:=(106,.cells [(sI 2),(sI 2),(sI 0),(.sl 100 0 1 (some 1)),(.sl 102 0 1 (some 1))] 38 false 0)
noncomputable def zCU:Nat×Blk:=(7,.cells [(.str [114]),(.bool true),(sI 2),(.str [103]),(.bool false),(sI 2)] 68 false 0)
noncomputable def zMJ:Snap:=⟨globs,4,[],165,4⟩
noncomputable def zQ5:Snap:=⟨globs++[sE0,
 (100,.cells [(sI 0)] 3 false 0),
 sE1,
 sE5,
 sE2,
 sE9,
 (102,.cells [(.sl 101 0 2 (some 2))] 22 false 0),
 sE3,
 (101,.cells [(sI 0),(sI 0)] 3 false 0),
 sE6,
 sE4,
 zCU],1742,
 [(4,(.ptr 106 0)),
 (2,(.ptr 104 0)),
 (6,(sI 0)),
 (1,(.sl 7 0 2 (some 2))),
 (5,(.ptr 1741 0))],165,4⟩
noncomputable def zQm:Snap:=⟨globs++[sE0,
 (100,.cells [(sI 0)] 3 false 0),
 sE1,
 sE5,
 sE2,
 sE9,
 (102,.cells [(.sl 101 0 2 (some 2))] 22 false 0),
 sE7,
 sE3,
 (101,.cells [(sI 0),(sI 0)] 3 false 0),
 sE8,
 sE6,
 sE4,
 zCU],3447,
 [(8,(sI 0)),
 (4,(.ptr 106 0)),
 (2,(.ptr 104 0)),
 (6,(sI 0)),
 (1,(.sl 7 0 2 (some 2))),
 (5,(.ptr 1741 0)),
 (7,(.ptr 3446 0))],165,4⟩
noncomputable def zQv:Snap:=⟨globs++[sE0,
 sE1,
 sE5,
 sE2,
 (4554,.cells (sL [2,2,1,114,1,2,1,103,0,2,8,0,0,0,1,3,1,114,1,0,0,2,2,0,1,0,0,0,2,0,0,1,0,0,1,0,0,1,1,0,0]) 3 true 0),
 sE7,
 (4638,.cells (sL [3,2,0,1,2,0,1,1,2,1,1,1,1,1,0]) 3 true 0),
 sE3,
 sE8,
 sE6,
 sE4,
 (3447,.cells [(.sl 4554 0 41 none),(sI 7666)] 24 false 0),
 (4639,.cells [(.sl 4638 0 15 none),(sI 51848)] 24 false 0)],4640,
 [(8,(sI 0)),
 (12,(sI 0)),
 (2,(.ptr 104 0)),
 (10,(sI 0)),
 (6,(sI 0)),
 (9,(.ptr 3447 0)),
 (5,(.ptr 1741 0)),
 (11,(.ptr 4639 0)),
 (7,(.ptr 3446 0))],165,4⟩
noncomputable def zQa:Snap:=⟨globs++[sE0,
 sE1,
 sE2,
 sE7,
 sE3,
 sE8,
 sE4],7125,
 [(2,(.ptr 104 0)),
 (13,(.bool true)),
 (7,(.ptr 3446 0))],165,4⟩
theorem zTc:(Tryz.prog.funcs.toList.all fun fn=>!(fn.name== "runtime.NumGoroutine"))=true:=by kernel_rfl
theorem zS0 (f:FuncId) (fn:Func) (h:Tryz.prog.funcs[f]? =some fn):fn.name≠ "runtime.NumGoroutine" :=by
 have:=List.all_eq_true.1 zTc fn (by simpa using Array.mem_of_getElem? h)
 simpa using this
theorem zPh:Tryz.prog.follows .mixedOrders=true:=by kernel_rfl
def zQW (p:Program):Bool:=match p.funcs[4]? with
 |some fn=>(match fn.body with|some b=>zF0 8 b&&Nat.beq fn.ntmps 165|none=>false)
 |none=>false
theorem zRM:zQW rA=true:=by kernel_rfl
theorem zPr:∃fn b,Tryz.prog.funcs[4]? =some fn/\fn.body=some b/\zF0 8 b=true/\fn.ntmps=165:=by
 have h:=zRM;unfold zQW at h;split at h
 ·rename_i fn hf
  split at h
  ·rename_i b hb
   simp only[Bool.and_eq_true] at h;exact⟨fn,b,hf,hb,h.1,Nat.eq_of_beq_eq_true h.2⟩
  ·cases h
 ·cases h
noncomputable section
def zIc (b:Nat):Blk:=(globs.lookup b).getD (.map [] 0)
def t0:T Blk:=.node (.node (.leaf 0 (zIc 0)) (.leaf 2 (zIc 2))) (.leaf 1 (zIc 1))
theorem zRP:∀b x,(b,x)∈globs->t0.find b b=some x:=fun b x h=>by
 simp only[globs,List.mem_cons,Prod.mk.injEq,List.not_mem_nil,or_false] at h;rcases h with⟨rfl,rfl⟩|⟨rfl,rfl⟩|⟨rfl,rfl⟩<;>rfl
end
theorem zSJ:zCL rA flats orders 1000000 400 4 (fun b=>zFM 3 (qV 0 b)) zMJ (zMb zQ5)=.ok:=by kernel_rfl
theorem zRB:zCL rA flats orders 1000000 400 4 (fun b=>zFM 1 (qV 3 b)) zQ5 (zMb zQm)=.ok:=by kernel_rfl
theorem zR8:zCL rA flats orders 1000000 400 4 (fun b=>zFM 2 (qV 4 b)) zQm (zMb zQv)=.ok:=by kernel_rfl
theorem zRk:zCL rA flats orders 1000000 400 4 (fun b=>zFM 2 (qV 6 b)) zQv (zMb zQa)=.ok:=by kernel_rfl
theorem zRp:zCL rA flats orders 1000000 400 4 (fun b=>qV 8 b) zQa zQZ=.ok:=by kernel_rfl
theorem zSl:qW rA zSQ=true:=by kernel_rfl
theorem zT0:qW rA zSm=true:=by kernel_rfl
theorem zS8:qW rA zSV=true:=by kernel_rfl
theorem zSw:qW rA zTK=true:=by kernel_rfl
theorem zTA:qW rA zTY=true:=by kernel_rfl
theorem zSk:qW rA zSg=true:=by kernel_rfl
theorem zBm:qW rA zAp=true:=by kernel_rfl
theorem yF {P:Program}{a b:qU}(h1:qW P a=true)(h2:qW P b=true):qW P (a++b)=true:=by
 unfold qW at*;rw[List.all_append,h1,h2];rfl
theorem zRK:qW rA orders=true:=(yF zSl (yF zT0 (yF zS8 (yF zSw (yF zTA (yF zSk zBm))))))
theorem ng4:Nat.ble 4 Tryz.prog.globals.size=true:=by kernel_rfl
theorem zL3 {ι:Inj} {w:World} (hr:Rel rA ι ⟨4,t0⟩ w) {fn:Func} (hn:fn.ntmps=165):
  zEt rA (qJ fn) ι ⟨4,t0⟩ w zMJ ι {tmps:=(#[]:Array Value)++Array.replicate (fn.ntmps - (#[]:Array Value).size) undef,defers:=[]} w:=by
 intro log t hl ht;refine⟨Step.forget hr fun b x hx=>zRP b x (ht b x hx),⟨?_,Nat.le_of_ble_eq_true ng4,fun k x hx=>by simp[T.find] at hx,fun k x hx=>?_⟩,trivial⟩
 ·simp[hn,zMJ]
 ·simp only[Fr.find,T.find,Option.or_none] at hx
  have:=hl k x hx;simp[zMJ] at this
theorem zGf (hflat:∀t∈flats,Flat rA t) {ι:Inj} {w:World} (hr:Rel rA ι ⟨4,t0⟩ w):Calls rA 4 #[] w (Ret rA ι ⟨4,t0⟩ w (fun v _=>zBP v)):=by
 obtain⟨fn,b,hf,hb,hrow,hn⟩:=zPr;have hP:zMU rA flats orders:=⟨zS0,zPh,hflat,zOh zRK⟩;have row:∀(p q:Nat) (c:Code),zF0 (p+q) c=true->zF0 p c=true:=by
  intro p;induction p with
  |zero=>intro q c _;rfl
  |succ p ih=>
   intro q c h;rw[show p+1+q=(p+q)+1 by omega] at h;cases c<;>first|(cases h;done)|exact ih q _ h
 refine callsIn_wide.1 (show CallsIn Fence.wide 0 _ _ _ _ _ from callsIn_of_wp_marks hf hb trivial ?_);refine zED hP hf hb (start:=0) (len:=3) (row 3 5 b hrow) zSJ (zL3 hr hn) fun ι a w h1=>?_
 refine zED hP hf hb (start:=3) (len:=1) (row 4 4 b hrow) zRB h1 fun ι a w h2=>?_
 refine zED hP hf hb (start:=4) (len:=2) (row 6 2 b hrow) zR8 h2 fun ι a w h3=>?_
 refine zED hP hf hb (start:=6) (len:=2) hrow zRk h3 fun ι a w h4=>?_
 exact zMg hP hf hb hrow zRp h4
def zB1:List (Nat×List Nat):=[(443,[1,1,0,0,0,0,0,0,0,0,0,0,0,0,0,0,0,0]),(438,[1,1]),(424,[1,1,0,0,0,0,0,0,0,0,0,0,0,0,0,0,0,0,1]),(204,[1,0]),(191,[1,0,0,0,0,0,0,0,0,0,0,0,0,0,0,0,0,1]),(186,[1,1]),(183,[1,1,0,0,0,0,0,0,0,0,0,0,0,0,0,0,0,0,1]),(445,[1,1])]
theorem zTV:(zB1.all fun x=>!(Tryz.prog.eqGuardType Tryz.prog.depth x.1))=true:=by kernel_rfl
theorem zSr:(zB1.all fun x=>leaves rA 8 x.1==some x.2)=true:=by kernel_rfl
theorem zTZ:(zB1.all fun x=>qL rA x.1)=true:=by kernel_rfl
theorem zT1:(zB1.all fun x=>(zeroAV rA x.1).map (fun z=>z.cells.map clsOf)==some x.2)=true:=by kernel_rfl
theorem zMQ:∀t∈flats,Flat rA t:=fun t ht=>by
 have h:t∈zB1.map (·.1):=ht;obtain⟨x,hx,rfl⟩:=List.mem_map.1 h;exact flat_of (by simpa using List.all_eq_true.1 zTV x hx) (by simpa using List.all_eq_true.1 zSr x hx) (by simpa using List.all_eq_true.1 zTZ x hx) (by simpa using List.all_eq_true.1 zT1 x hx)
section
variable {P:Program} {H:Type} {enc:TypeId×Value->H} {w:World} {base:Nat} {sp:Nat->Bool} {held:Bool} {ι:Inj}
theorem zBK (K:Nat) {d:DataW H} (h:∀l,d≠.agg l):vO K d=zEY d:=by
 cases K with
 |zero=>rfl
 |succ K=>cases d<;>first|rfl|exact absurd rfl (h _)
def zOY (P:Program) (enc:TypeId×Value->H) (w:World) (base:Nat) (sp:Nat->Bool) (held:Bool) (ι:Inj) (K:Nat) (t:TypeId):Prop:=
 ∀(fuel:Nat) (cs:List Value) (x:DataW H×List MemPlace),DataW.trod enc P w base sp held fuel t cs=some x->concL ι (vO K x.1)=some cs
theorem zQp {m K:Nat} (ih:∀t ls,leaves P m t=some ls->P.cellsOf t=ls.length->zOY P enc w base sp held ι K t) {fuel:Nat} {cs:List Value}:∀(fs:List Field) (off:Nat) (ls:List Nat),q7 P (leaves P m) fs off=some ls->
  ∀(xs:List (DataW H×List MemPlace)),xs.length=fs.length->(∀(i:Nat) (f:Field),fs[i]? =some f->DataW.trod enc P w base sp held fuel f.type ((cs.drop f.offset).take (P.cellsOf f.type))=xs[i]?)->cs.length=off+ls.length->
   concL ι ((xs.map (·.1)).flatMap (vO K))=some (cs.drop off)
 |[],off,ls,hl,xs,hx,_,hc=>by
  simp[q7] at hl;subst hl;have:xs=[]:=List.length_eq_zero_iff.1 hx;subst this;have:cs.drop off=[]:=List.drop_eq_nil_of_le (by simp at hc;omega);simp[this,concL]
 |f::fs,off,ls,hl,xs,hx,he,hc=>by
  unfold q7 at hl;split at hl
  ·rename_i l hl1
   split at hl
   ·rename_i hcond
    obtain⟨hn,ho,hs⟩:=hcond;obtain⟨l',hl2,rfl⟩:=Option.map_eq_some_iff.1 hl
    match xs,hx with
    |x::xs,hx=>
     have h0:=he 0 f rfl;simp only[List.getElem?_cons_zero] at h0;have h1:=ih _ _ hl1 hs _ _ _ h0;have h2:=zQp ih fs _ _ hl2 xs (by simpa using hx) (fun i g hg=>by have:=he (i+1) g (by simpa using hg);simpa using this) (by rw[hc,List.length_append];omega);rw[List.map_cons,List.flatMap_cons];have:=yC h1 h2;rw[this,ho,hs];congr 1;rw[<-List.drop_drop,List.take_append_drop]
   ·cases hl
  ·cases hl
theorem zQi {m K c:Nat} {e:TypeId} (ih:zOY P enc w base sp held ι K e) {fuel n:Nat} {cs:List Value} {xs:List (DataW H×List MemPlace)} (hx:xs.length=n) (hc:P.cellsOf e=c) (hl:cs.length=n*c)
  (he:∀(i:Nat),i<n->DataW.trod enc P w base sp held fuel e ((cs.drop (i*P.cellsOf e)).take (P.cellsOf e))=xs[i]?):
  ∀k,k<=n->concL ι (((xs.drop (n - k)).map (·.1)).flatMap (vO K))=some (cs.drop ((n - k)*c))
 |0,_=>by
  have h1:xs.drop (n - 0)=[]:=List.drop_eq_nil_of_le (by omega);have h2:cs.drop ((n - 0)*c)=[]:=List.drop_eq_nil_of_le (by rw[hl];simp);rw[h1,h2];rfl
 |k+1,hk=>by
  have ih2:=zQi (m:=m) ih hx hc hl he k (by omega);have hi:n - (k+1)<xs.length:=by omega
  have h0:=he (n - (k+1)) (by omega);rw[List.getElem?_eq_getElem hi] at h0;have h1:=ih _ _ _ h0;rw[List.drop_eq_getElem_cons hi,List.map_cons,List.flatMap_cons,show n - (k+1)+1=n - k by omega];rw[yC h1 ih2,hc];congr 1;rw[show(n - k)*c=(n - (k+1))*c+c by rw[show n - k=n - (k+1)+1 by omega,Nat.add_mul,Nat.one_mul]];rw[<-List.drop_drop,List.take_append_drop]
theorem zN4:∀(m K:Nat) (t:TypeId) (ls:List Nat),m<=K+1->leaves P m t=some ls->P.cellsOf t=ls.length->zOY P enc w base sp held ι K t
 |0,K,t,ls,_,h,_=>by simp[leaves] at h
 |m+1,K,t,ls,hK,hl,hs=>by
  intro fuel cs x h;cases hu:P.underlying t with
  |none=>simp[leaves,hu] at hl
  |some k=>
   cases k
   case bool=>
    obtain⟨b,rfl,rfl⟩:=DataW.trod_bool hu h;rw[zBK K (by simp)];rfl
   case int q=>
    obtain⟨n,rfl,rfl,_⟩:=DataW.trod_int hu h;rw[zBK K (by simp)];rfl
   case string=>
    obtain⟨s,rfl,rfl,_⟩:=DataW.trod_string hu h;rw[zBK K (by simp)];simp[zEY,concL,conc]
   case struct fs=>
    simp only[leaves,hu] at hl;split at hl
    ·cases hl
    ·obtain⟨xs,n,_,rfl,h1,h2,h3⟩:=DataW.trod_struct hu h
     cases K with
     |zero=>
      cases m with
      |zero=>
       cases hf:fs.toList with
       |nil=>
        rw[hf] at hl;simp[q7] at hl;subst hl;have hz:cs=[]:=List.length_eq_zero_iff.1 (by rw[h1,hs];rfl);subst hz;rfl
       |cons f fs=>rw[hf] at hl;simp[q7,leaves] at hl
      |succ m=>omega
     |succ K=>
      have:=zQp (K:=K) (fuel:=n) (cs:=cs) (fun t ls h h'=>zN4 m K t ls (by omega) h h') fs.toList 0 ls hl xs (by simpa using h2) (fun i f hf=>h3 i f (by simpa using hf)) (by rw[h1,hs];omega);show concL ι ((xs.map (·.1)).flatMap (vO K))=some cs
      simpa using this
   case array n e=>
    simp only[leaves,hu] at hl;split at hl
    ·rename_i l hl1
     split at hl
     ·rename_i hc
      injection hl with hl;subst hl
      obtain⟨xs,mm,_,rfl,h1,h2,h3⟩:=DataW.trod_array hu h;cases K with
      |zero=>
       cases m with
       |zero=>simp[leaves] at hl1
       |succ m=>omega
      |succ K=>
       have:=zQi (m:=m) (K:=K) (zN4 m K e l (by omega) hl1 hc.1) (cs:=cs) h2 hc.1 (by rw[h1,hs];simp) h3 n (Nat.le_refl _);show concL ι ((xs.map (·.1)).flatMap (vO K))=some cs
       simpa using this
     ·cases hl
    ·cases hl
   all_goals (simp[leaves,hu] at hl;done)
end
theorem zRR {ι:Inj} {w:World} {n:String} {g:Nat} {t:TypeId} {ls:List Nat} {d:DataW Unit} (hg:Tryz.prog.globalNamed n=some g) (ht:(Tryz.prog.globals[g]?).map (·.type)=some t)
  (hl:leaves rA 4 t=some ls) (hs:Tryz.prog.cellsOf t=ls.length) (h:Lib.VarReads rA w n d):xX rA ι ⟨g,0,0,0⟩ (.cells (vO 3 d) 0 false 3) w:=by
 obtain⟨g',t',cs,fuel,p,h1,h2,h3,h4⟩:=h;obtain rfl:=Option.some.inj (hg.symm.trans h1);obtain rfl:=Option.some.inj (ht.symm.trans h2);have hc:=zN4 (ι:=ι) 4 3 t ls (Nat.le_refl _) hl hs fuel cs.toList (d,p) h4;simp only[World.var?,hg,Option.bind_some] at h3;split at h3
 ·rename_i cs' e fz hh
  injection h3 with h3
  subst h3;exact⟨cs',e,fz,_,hh,hc,fun i hi=>by simp,by simp,by simp⟩
 ·cases h3
def ι0:Inj:=fun b=>if b<4 then some ⟨b,0,0,0⟩ else none
theorem zEb {α:Type} {k p b:Nat} {a x:α} (h:(T.leaf k a).find p b=some x):b=k/\x=a:=by
 simp only[T.find] at h;split at h
 ·rename_i e
  injection h with h
  exact⟨e.symm,h.symm⟩
 ·cases h
theorem zHg {α:Type} {l r:T α} {p b:Nat} {x:α} (h:(T.node l r).find p b=some x):(∃q,l.find q b=some x)∨∃q,r.find q b=some x:=by
 simp only[T.find] at h;split at h
 ·exact .inl ⟨_,h⟩
 ·exact .inr ⟨_,h⟩
theorem zI3 {p b:Nat} {x:Blk} (h:t0.find p b=some x):(b=0∨b=1∨b=2)/\x=zIc b:=by
 unfold t0 at h;rcases zHg h with⟨q,h⟩|⟨q,h⟩
 ·rcases zHg h with⟨q,h⟩|⟨q,h⟩
  ·obtain⟨rfl,rfl⟩:=zEb h;exact⟨by omega,rfl⟩
  ·obtain⟨rfl,rfl⟩:=zEb h;exact⟨by omega,rfl⟩
 ·obtain⟨rfl,rfl⟩:=zEb h;exact⟨by omega,rfl⟩
theorem zCc {p b:Nat} {x:Blk} (h:t0.find p b=some x):x.writable=false:=by
 obtain⟨h1,h2⟩:=zI3 h;rw[h2];rcases h1 with rfl|rfl|rfl<;>rfl
theorem zTH:Tryz.prog.globals.size=4:=by kernel_rfl
theorem g0:Tryz.prog.globalNamed "foresight/signal.keys" =some 0:=by kernel_rfl
theorem g1:Tryz.prog.globalNamed "foresight/formula.forms" =some 1:=by kernel_rfl
theorem g2:Tryz.prog.globalNamed "math/bits.deBruijn32tab" =some 2:=by kernel_rfl
noncomputable def zPw (g:Nat):Bool:=match Tryz.prog.globals[g]? with
 |some x=>(match leaves rA 4 x.type with
  |some ls=>Nat.beq (Tryz.prog.cellsOf x.type) ls.length
  |none=>false)
 |none=>false
theorem zP0:([0,1,2].all zPw)=true:=by kernel_rfl
theorem zCk {ι:Inj} {w:World} {n:String} {g:Nat} {d:DataW Unit} (hg:Tryz.prog.globalNamed n=some g) (hb:zPw g=true) (h:Lib.VarReads rA w n d):xX rA ι ⟨g,0,0,0⟩ (.cells (vO 3 d) 0 false 3) w:=by
 unfold zPw at hb;split at hb
 ·rename_i x hx
  split at hb
  ·rename_i ls hl
   exact zRR hg (t:=x.type) (by rw[hx];rfl) hl (Nat.eq_of_beq_eq_true hb) h
  ·cases hb
 ·cases hb
theorem zCg {g:Nat} (h:g∈[0,1,2]):zPw g=true:=List.all_eq_true.1 zP0 g h
def zAo:List (String×DataW Unit):=[("math/bits.deBruijn32tab",Rows.laid_math_bits_deBruijn32tab),("foresight/signal.keys",Rows.laid_foresight_signal_keys),("foresight/formula.forms",Rows.laid_foresight_formula_forms)]
theorem zH0 {ι:Inj} {w:World} {e:Ending} {w':World} (h:Ret rA ι ⟨4,t0⟩ w (fun v _=>zBP v) e w'):e=.returned (.bool true)/\RowKit.Below w.heap.size w w':=by
 obtain⟨V,rfl,v,ι',m',h1,st,hV⟩:=h;have h2:zBP v=.ok:=h1;unfold zBP at h2;split at h2
 ·simp[conc] at hV
  subst hV;refine⟨rfl,st.os,st.tape,st.output,st.size,fun k hk=>st.old k hk ?_⟩;rintro⟨b,x,p,hx,hw,_⟩;rw[zCc hx] at hw;cases hw
 ·cases h2
end Go.AM

