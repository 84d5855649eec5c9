/- The machine over plain data: its values, its memory, its evaluator, and how they stand for the model. -/
import GoSem.Machine.Frame
section
namespace Go.AM
inductive T (α:Type) where
 |nil (d:Nat)
 |leaf (k:Nat) (a:α)
 |node (l r:T α)
inductive AV where
 |bool (b:Bool)
 |int (k:IntKind) (n:Int)
 |str (s:List UInt8)
 |ptr (b o:Nat)
 |nilp
 |sl (b o len:Nat) (cap:Option Nat)
 |nils
 |mp (b:Nat)
 |nilm
 |fn (f:Fn) (first cap:List AV)
 |nilf
 |ifc (t:TypeId) (v:AV)
 |nili
 |agg (cs:List AV)
 |tup (vs:List AV)
 |dead (b o l d:Nat)
def AV.cells:AV→List AV
 | .agg cs=>cs
 |v=>[v]
def AV.undef:AV:=.tup []
structure Ent where
 key:AV
 val:AV
 born:Nat
inductive Log where
 |nil
 |cons (d:Nat) (v:AV) (l:Log)
structure Fr where
 log:Log
 t:T AV
 n:Nat
 ng:Nat
inductive Blk where
 |cells (c:List AV) (e:TypeId) (g:Bool) (z:Nat)
 |map (es:List Ent) (clock:Nat)
 |iter (map:Option Nat) (since:Nat) (seen:List Nat) (stepped:Nat)
 |loop (st:Nat) (pend:Option Code) (fr:Fr) (mask:Nat) (fn:FuncId) (params:List Tmp) (assign body:Code)
structure Mem where
 next:Nat
 t:T Blk
inductive X where
 |n
 |x (id:Nat)
 |r
inductive R where
 |ok
 |bad (place:Nat)
 |at (f:Nat) (r:R)
 |out (v:AV) (m:Mem)
end Go.AM
end
section
namespace Go.AM
noncomputable section
def mark (_f:Nat) (r:R):R:=r
def forceN (n:Nat) (f:Nat→R):R:=Nat.rec (motive:=fun _=>(Nat→R)→R) (fun f=>f Nat.zero) (fun m _ f=>f (Nat.succ m)) n f
def forceI (n:Int) (f:Int→R):R:=Int.rec (motive:=fun _=>(Int→R)→R) (fun m f=>forceN m fun m=>f (Int.ofNat m)) (fun m f=>forceN m fun m=>f (Int.negSucc m)) n f
def ifB (tag:Nat) (b:Bool) (k:R):R:=Bool.rec (motive:=fun _=>Nat→R→R) (fun tag _=>R.bad tag) (fun _ k=>k) b tag k
def iteB {α:Type} (b:Bool) (x y:α):α:=Bool.rec y x b
def optK {α:Type} (tag:Nat) (o:Option α) (f:α→R):R:=Option.rec (motive:=fun _=>Nat→(α→R)→R) (fun tag _=>R.bad tag) (fun a _ f=>f a) o tag f
def T.getK {α:Type} (t:T α) (k:Nat) (f:α→R):R:=
 T.rec (motive:=fun _=>Nat→Nat→(α→R)→R) (fun _ _ _ _=>R.bad 0)
  (fun key a _ k f=>ifB 0 (Nat.beq key k) (f a))
  (fun _ _ ihl ihr p k f=>Nat.rec (motive:=fun _=>R) (ihl (Nat.div p 2) k f) (fun _ _=>ihr (Nat.div p 2) k f) (Nat.mod p 2)) t k k f
def T.singleK {α:Type} (a:α) (key:Nat) (d:Nat):Nat→(T α→R)→R:=
 Nat.rec (motive:=fun _=>Nat→(T α→R)→R) (fun _ f=>f (T.leaf key a))
  (fun d ih p f=>Nat.rec (motive:=fun _=>R) (ih (Nat.div p 2) fun t=>f (T.node t (T.nil d))) (fun _ _=>ih (Nat.div p 2) fun t=>f (T.node (T.nil d) t)) (Nat.mod p 2)) d
def T.setK {α:Type} (t:T α) (k:Nat) (a:α) (f:T α→R):R:=
 T.rec (motive:=fun _=>Nat→Nat→α→(T α→R)→R) (fun d p k a f=>T.singleK a k d p f)
  (fun _ _ _ k a f=>f (T.leaf k a))
  (fun l r ihl ihr p k a f=>Nat.rec (motive:=fun _=>R) (ihl (Nat.div p 2) k a fun l=>f (T.node l r)) (fun _ _=>ihr (Nat.div p 2) k a fun r=>f (T.node l r)) (Nat.mod p 2)) t k k a f
def T.delK {α:Type} (t:T α) (k:Nat) (f:T α→R):R:=
 T.rec (motive:=fun _=>Nat→(T α→R)→R) (fun d _ f=>f (T.nil d))
  (fun _ _ _ f=>f (T.nil 0))
  (fun l r ihl ihr p f=>Nat.rec (motive:=fun _=>R) (ihl (Nat.div p 2) fun l=>f (T.node l r)) (fun _ _=>ihr (Nat.div p 2) fun r=>f (T.node l r)) (Nat.mod p 2)) t k f
def T.get {α:Type} (t:T α) (k:Nat):Option α:=
 T.rec (motive:=fun _=>Nat→Option α) (fun _ _=>none) (fun key a _=>iteB (Nat.beq key k) (some a) none)
  (fun _ _ ihl ihr p=>Nat.rec (motive:=fun _=>Option α) (ihl (Nat.div p 2)) (fun _ _=>ihr (Nat.div p 2)) (Nat.mod p 2)) t k
def Fr.getK (fr:Fr) (k:Nat) (f:AV→R):R:=
 Fr.rec (motive:=fun _=>Nat→(AV→R)→R) (fun log t _ _ k f=>Log.rec (motive:=fun _=>T AV→Nat→(AV→R)→R) (fun t k f=>t.getK k f)
  (fun d v _ ih t k f=>Bool.rec (motive:=fun _=>R) (ih t k f) (f v) (Nat.beq d k)) log t k f) fr k f
def Fr.setK (fr:Fr) (d:Nat) (v:AV) (f:Fr→R):R:=
 Fr.rec (motive:=fun _=>Nat→AV→(Fr→R)→R) (fun log t n ng d v f=>ifB 0 (Nat.ble (Nat.succ d) n) (f ⟨.cons d v log,t,n,ng⟩)) fr d v f
def Fr.flushK (fr:Fr) (mask:Nat) (f:Fr→R):R:=
 Fr.rec (motive:=fun _=>Nat→(Fr→R)→R) (fun log t n ng mask f=>Log.rec (motive:=fun _=>T AV→Nat→(T AV→R)→R) (fun t _ f=>f t)
  (fun d v _ ih t mask f=>ih t mask fun t=>Nat.rec (motive:=fun _=>R) (f t) (fun _ _=>t.setK d v f) (Nat.land (Nat.shiftRight mask d) 1)) log t mask fun t=>f ⟨.nil,t,n,ng⟩) fr mask f
def nthK {α:Type} (l:List α) (n:Nat) (f:α→R):R:=
 List.rec (motive:=fun _=>Nat→(α→R)→R) (fun _ _=>R.bad 0) (fun a _ ih n f=>Nat.rec (motive:=fun _=>R) (f a) (fun j _=>ih j f) n) l n f
def setNthK {α:Type} (l:List α) (n:Nat) (x:α) (f:List α→R):R:=
 List.rec (motive:=fun _=>Nat→α→(List α→R)→R) (fun _ _ _=>R.bad 0) (fun a l ih n x f=>Nat.rec (motive:=fun _=>R) (f (x::l)) (fun j _=>ih j x fun l=>f (a::l)) n) l n x f
def takeK {α:Type} (l:List α) (n:Nat) (f:List α→R):R:=
 List.rec (motive:=fun _=>Nat→(List α→R)→R) (fun n f=>Nat.rec (motive:=fun _=>R) (f []) (fun _ _=>R.bad 0) n) (fun a _ ih n f=>Nat.rec (motive:=fun _=>R) (f []) (fun j _=>ih j fun l=>f (a::l)) n) l n f
def dropK {α:Type} (l:List α) (n:Nat) (f:List α→R):R:=
 List.rec (motive:=fun _=>Nat→(List α→R)→R) (fun n f=>Nat.rec (motive:=fun _=>R) (f []) (fun _ _=>R.bad 0) n) (fun a l ih n f=>Nat.rec (motive:=fun _=>R) (f (a::l)) (fun j _=>ih j f) n) l n f
def appK {α:Type} (l r:List α) (f:List α→R):R:=
 List.rec (motive:=fun _=>(List α→R)→R) (fun f=>f r) (fun a _ ih f=>ih fun l=>f (a::l)) l f
def overK {α:Type} (xs:List α) (l:List α) (f:List α→R):R:=
 List.rec (motive:=fun _=>List α→(List α→R)→R) (fun l f=>f l) (fun x _ ih l f=>List.rec (motive:=fun _=>R) (R.bad 0) (fun _ l _=>ih l fun l=>f (x::l)) l) xs l f
def spliceK {α:Type} (l:List α) (n:Nat) (xs:List α) (f:List α→R):R:=
 List.rec (motive:=fun _=>Nat→(List α→R)→R) (fun n f=>Nat.rec (motive:=fun _=>R) (overK xs [] f) (fun _ _=>R.bad 0) n) (fun a l ih n f=>Nat.rec (motive:=fun _=>R) (overK xs (a::l) f) (fun j _=>ih j fun l=>f (a::l)) n) l n f
def replK {α:Type} (x:List α) (n:Nat) (f:List α→R):R:=
 Nat.rec (motive:=fun _=>(List α→R)→R) (fun f=>f []) (fun _ ih f=>ih fun l=>appK x l f) n f
def lenK {α:Type} (l:List α) (f:Nat→R):R:=
 List.rec (motive:=fun _=>Nat→(Nat→R)→R) (fun n f=>f n) (fun _ _ ih n f=>forceN (Nat.succ n) fun n=>ih n f) l Nat.zero f
def mapK {α β:Type} (g:α→(β→R)→R) (l:List α) (f:List β→R):R:=
 List.rec (motive:=fun _=>(List β→R)→R) (fun f=>f []) (fun a _ ih f=>g a fun b=>ih fun l=>f (b::l)) l f
def foldK {α σ:Type} (g:α→σ→(σ→R)→R) (l:List α) (s:σ) (f:σ→R):R:=
 List.rec (motive:=fun _=>σ→(σ→R)→R) (fun s f=>f s) (fun a _ ih s f=>g a s fun s=>ih s f) l s f
end
end Go.AM
end
section
namespace Go.AM
noncomputable section
structure G where
 ft:T Func
 tt:T TypeInfo
 flat:List TypeId
 nglob:Nat
def G.info (g:G) (t:TypeId):Option TypeInfo:=g.tt.get t
def G.desc (g:G) (t:TypeId):TypeDesc:=
 match g.tt.get t with
 |some i=>(match i.desc with
  | .named _ u=>(match g.tt.get u with|some j=>j.desc|none=>.invalid)
  |d=>d)
 |none=>.invalid
def G.size (g:G) (t:TypeId):Option Nat:=match g.tt.get t with|some i=>(match g.desc t with| .invalid=>none|_=>some i.size)|none=>none
def G.agg (g:G) (t:TypeId):Bool:=match g.desc t with| .struct _=>true| .array _ _=>true|_=>false
def absC:Value→Option AV
 | .bool b=>some (.bool b)
 | .int k n=>some (.int k n)
 | .string s=>some (.str s.data.toList)
 | .pointer none=>some .nilp
 | .slice none 0 0=>some .nils
 | .map none=>some .nilm
 | .nilFunc=>some .nilf
 | .nilIface=>some .nili
 |_=>none
def absCs:List Value→Option (List AV)
 |[]=>some []
 |v::vs=>match absC v,absCs vs with|some a,some l=>some (a::l)|_,_=>none
def absV:Value→Option AV
 | .agg cs=>match absCs cs.toList with|some l=>some (.agg l)|none=>none
 | .tuple cs=>match absCs cs.toList with|some l=>some (.tup l)|none=>none
 | .func (.func f) first cap=>if first.isEmpty&&cap.isEmpty then some (.fn (.func f) [] []) else none
 |v=>absC v
def G.zero (g:G) (t:TypeId):Option AV:=match g.tt.get t with
 |some i=>(match i.zero with|some z=>absV z|none=>none)
 |none=>none
def ev (x:Operand) (fr:Fr) (f:AV→R):R:=
 Operand.rec (motive:=fun _=>Fr→(AV→R)→R) (fun t fr f=>fr.getK t f) (fun v _ f=>optK 0 (absV v) f) (fun g fr f=>ifB 0 (Nat.ble (Nat.succ g) fr.ng) (f (.ptr g 0))) (fun i _ f=>f (.fn (.func i) [] [])) x fr f
def evs (xs:List Operand) (fr:Fr) (f:List AV→R):R:=
 List.rec (motive:=fun _=>Fr→(List AV→R)→R) (fun _ f=>f []) (fun x _ ih fr f=>ev x fr fun v=>ih fr fun l=>f (v::l)) xs fr f
def evo (x:Option Operand) (fr:Fr) (f:Option AV→R):R:=match x with|none=>f none|some x=>ev x fr fun v=>f (some v)
def AV.isCell:AV→Bool
 | .agg _=>false
 | .tup _=>false
 |_=>true
def allCells (l:List AV):Bool:=List.rec (motive:=fun _=>Bool) true (fun a _ ih=>iteB a.isCell ih false) l
def asIntK (v:AV) (f:Int→R):R:=AV.rec (motive_1:=fun _=>(Int→R)→R) (motive_2:=fun _=>Unit) (fun _ _=>R.bad 0) (fun _ n f=>f n) (fun _ _=>R.bad 0) (fun _ _ _=>R.bad 0) (fun _=>R.bad 0) (fun _ _ _ _ _=>R.bad 0) (fun _=>R.bad 0) (fun _ _=>R.bad 0) (fun _=>R.bad 0) (fun _ _ _ _ _ _=>R.bad 0) (fun _=>R.bad 0) (fun _ _ _ _=>R.bad 0) (fun _=>R.bad 0) (fun _ _ _=>R.bad 0) (fun _ _ _=>R.bad 0) (fun _ _ _ _ _=>R.bad 0) () (fun _ _ _ _=>()) v f
def natK (n:Int) (f:Nat→R):R:=Int.rec (motive:=fun _=>(Nat→R)→R) (fun m f=>f m) (fun _ _=>R.bad 0) n f
def asNatK (v:AV) (f:Nat→R):R:=AV.rec (motive_1:=fun _=>(Nat→R)→R) (motive_2:=fun _=>Unit) (fun _ _=>R.bad 0) (fun _ n f=>natK n f) (fun _ _=>R.bad 0) (fun _ _ _=>R.bad 0) (fun _=>R.bad 0) (fun _ _ _ _ _=>R.bad 0) (fun _=>R.bad 0) (fun _ _=>R.bad 0) (fun _=>R.bad 0) (fun _ _ _ _ _ _=>R.bad 0) (fun _=>R.bad 0) (fun _ _ _ _=>R.bad 0) (fun _=>R.bad 0) (fun _ _ _=>R.bad 0) (fun _ _ _=>R.bad 0) (fun _ _ _ _ _=>R.bad 0) () (fun _ _ _ _=>()) v f
def asBoolK (v:AV) (f:Bool→R):R:=AV.rec (motive_1:=fun _=>(Bool→R)→R) (motive_2:=fun _=>Unit) (fun b f=>f b) (fun _ _ _=>R.bad 0) (fun _ _=>R.bad 0) (fun _ _ _=>R.bad 0) (fun _=>R.bad 0) (fun _ _ _ _ _=>R.bad 0) (fun _=>R.bad 0) (fun _ _=>R.bad 0) (fun _=>R.bad 0) (fun _ _ _ _ _ _=>R.bad 0) (fun _=>R.bad 0) (fun _ _ _ _=>R.bad 0) (fun _=>R.bad 0) (fun _ _ _=>R.bad 0) (fun _ _ _=>R.bad 0) (fun _ _ _ _ _=>R.bad 0) () (fun _ _ _ _=>()) v f
def inI64 (n:Int):Bool:=Int.rec (motive:=fun _=>Bool) (fun m=>Nat.ble m 9223372036854775807) (fun m=>Nat.ble m 9223372036854775807) n
def wrapK (k:IntKind) (n:Int) (f:AV→R):R:=
 IntKind.rec (motive:=fun _=>Int→(AV→R)→R) (fun n f=>forceI (IntKind.i8.wrap n) fun n=>f (.int .i8 n)) (fun n f=>forceI (IntKind.i16.wrap n) fun n=>f (.int .i16 n)) (fun n f=>forceI (IntKind.i32.wrap n) fun n=>f (.int .i32 n)) (fun n f=>iteB (inI64 n) (f (.int .i64 n)) (forceI (IntKind.i64.wrap n) fun n=>f (.int .i64 n))) (fun n f=>forceI (IntKind.u8.wrap n) fun n=>f (.int .u8 n)) (fun n f=>forceI (IntKind.u16.wrap n) fun n=>f (.int .u16 n)) (fun n f=>forceI (IntKind.u32.wrap n) fun n=>f (.int .u32 n)) (fun n f=>forceI (IntKind.u64.wrap n) fun n=>f (.int .u64 n)) k n f
def is_i8 (b:IntKind):Bool:=IntKind.rec (motive:=fun _=>Bool) true false false false false false false false b
def is_i16 (b:IntKind):Bool:=IntKind.rec (motive:=fun _=>Bool) false true false false false false false false b
def is_i32 (b:IntKind):Bool:=IntKind.rec (motive:=fun _=>Bool) false false true false false false false false b
def is_i64 (b:IntKind):Bool:=IntKind.rec (motive:=fun _=>Bool) false false false true false false false false b
def is_u8 (b:IntKind):Bool:=IntKind.rec (motive:=fun _=>Bool) false false false false true false false false b
def is_u16 (b:IntKind):Bool:=IntKind.rec (motive:=fun _=>Bool) false false false false false true false false b
def is_u32 (b:IntKind):Bool:=IntKind.rec (motive:=fun _=>Bool) false false false false false false true false b
def is_u64 (b:IntKind):Bool:=IntKind.rec (motive:=fun _=>Bool) false false false false false false false true b
def kindEq (a b:IntKind):Bool:=IntKind.rec (motive:=fun _=>IntKind→Bool) is_i8 is_i16 is_i32 is_i64 is_u8 is_u16 is_u32 is_u64 a b
def intEq (a b:Int):Bool:=Int.rec (motive:=fun _=>Int→Bool) (fun m b=>Int.rec (motive:=fun _=>Nat→Bool) (fun n m=>Nat.beq m n) (fun _ _=>false) b m) (fun m b=>Int.rec (motive:=fun _=>Nat→Bool) (fun _ _=>false) (fun n m=>Nat.beq m n) b m) a b
def intLt (a b:Int):Bool:=Int.rec (motive:=fun _=>Int→Bool) (fun m b=>Int.rec (motive:=fun _=>Nat→Bool) (fun n m=>Nat.ble (Nat.succ m) n) (fun _ _=>false) b m) (fun m b=>Int.rec (motive:=fun _=>Nat→Bool) (fun _ _=>true) (fun n m=>Nat.ble (Nat.succ n) m) b m) a b
def strEq (a b:List UInt8):Bool:=List.rec (motive:=fun _=>List UInt8→Bool) (fun b=>List.rec (motive:=fun _=>Bool) true (fun _ _ _=>false) b) (fun x _ ih b=>List.rec (motive:=fun _=>Bool) false (fun y b _=>iteB (Nat.beq x.toNat y.toNat) (ih b) false) b) a b
def strLt (a b:List UInt8):Bool:=List.rec (motive:=fun _=>List UInt8→Bool) (fun b=>List.rec (motive:=fun _=>Bool) false (fun _ _ _=>true) b)
 (fun x _ ih b=>List.rec (motive:=fun _=>Bool) false (fun y b _=>iteB (Nat.beq x.toNat y.toNat) (ih b) (Nat.ble (Nat.succ x.toNat) y.toNat)) b) a b
def retB (b:Bool) (f:AV→R):R:=Bool.rec (motive:=fun _=>(AV→R)→R) (fun f=>f (.bool false)) (fun f=>f (.bool true)) b f
def int2 (h:IntKind→Int→Int→(AV→R)→R) (a b:AV) (f:AV→R):R:=
 AV.rec (motive_1:=fun _=>AV→(IntKind→Int→Int→(AV→R)→R)→(AV→R)→R) (motive_2:=fun _=>Unit) (fun _ _ _ _=>R.bad 0) (fun k x b h f=>AV.rec (motive_1:=fun _=>IntKind→Int→(IntKind→Int→Int→(AV→R)→R)→(AV→R)→R) (motive_2:=fun _=>Unit) (fun _ _ _ _ _=>R.bad 0) (fun j y k x h f=>ifB 0 (kindEq k j) (h k x y f)) (fun _ _ _ _ _=>R.bad 0) (fun _ _ _ _ _ _=>R.bad 0) (fun _ _ _ _=>R.bad 0) (fun _ _ _ _ _ _ _ _=>R.bad 0) (fun _ _ _ _=>R.bad 0) (fun _ _ _ _ _=>R.bad 0) (fun _ _ _ _=>R.bad 0) (fun _ _ _ _ _ _ _ _ _=>R.bad 0) (fun _ _ _ _=>R.bad 0) (fun _ _ _ _ _ _ _=>R.bad 0) (fun _ _ _ _=>R.bad 0) (fun _ _ _ _ _ _=>R.bad 0) (fun _ _ _ _ _ _=>R.bad 0) (fun _ _ _ _ _ _ _ _=>R.bad 0) () (fun _ _ _ _=>()) b k x h f) (fun _ _ _ _=>R.bad 0) (fun _ _ _ _ _=>R.bad 0) (fun _ _ _=>R.bad 0) (fun _ _ _ _ _ _ _=>R.bad 0) (fun _ _ _=>R.bad 0) (fun _ _ _ _=>R.bad 0) (fun _ _ _=>R.bad 0) (fun _ _ _ _ _ _ _ _=>R.bad 0) (fun _ _ _=>R.bad 0) (fun _ _ _ _ _ _=>R.bad 0) (fun _ _ _=>R.bad 0) (fun _ _ _ _ _=>R.bad 0) (fun _ _ _ _ _=>R.bad 0) (fun _ _ _ _ _ _ _=>R.bad 0) () (fun _ _ _ _=>()) a b h f
def int2s (h:IntKind→Int→Int→(AV→R)→R) (a b:AV) (f:AV→R):R:=
 AV.rec (motive_1:=fun _=>AV→(IntKind→Int→Int→(AV→R)→R)→(AV→R)→R) (motive_2:=fun _=>Unit) (fun _ _ _ _=>R.bad 0) (fun k x b h f=>AV.rec (motive_1:=fun _=>IntKind→Int→(IntKind→Int→Int→(AV→R)→R)→(AV→R)→R) (motive_2:=fun _=>Unit) (fun _ _ _ _ _=>R.bad 0) (fun _ y k x h f=>h k x y f) (fun _ _ _ _ _=>R.bad 0) (fun _ _ _ _ _ _=>R.bad 0) (fun _ _ _ _=>R.bad 0) (fun _ _ _ _ _ _ _ _=>R.bad 0) (fun _ _ _ _=>R.bad 0) (fun _ _ _ _ _=>R.bad 0) (fun _ _ _ _=>R.bad 0) (fun _ _ _ _ _ _ _ _ _=>R.bad 0) (fun _ _ _ _=>R.bad 0) (fun _ _ _ _ _ _ _=>R.bad 0) (fun _ _ _ _=>R.bad 0) (fun _ _ _ _ _ _=>R.bad 0) (fun _ _ _ _ _ _=>R.bad 0) (fun _ _ _ _ _ _ _ _=>R.bad 0) () (fun _ _ _ _=>()) b k x h f) (fun _ _ _ _=>R.bad 0) (fun _ _ _ _ _=>R.bad 0) (fun _ _ _=>R.bad 0) (fun _ _ _ _ _ _ _=>R.bad 0) (fun _ _ _=>R.bad 0) (fun _ _ _ _=>R.bad 0) (fun _ _ _=>R.bad 0) (fun _ _ _ _ _ _ _ _=>R.bad 0) (fun _ _ _=>R.bad 0) (fun _ _ _ _ _ _=>R.bad 0) (fun _ _ _=>R.bad 0) (fun _ _ _ _ _=>R.bad 0) (fun _ _ _ _ _=>R.bad 0) (fun _ _ _ _ _ _ _=>R.bad 0) () (fun _ _ _ _=>()) a b h f
def addH (k:IntKind) (x y:Int) (f:AV→R):R:=forceI (Int.add x y) fun n=>wrapK k n f
def subH (k:IntKind) (x y:Int) (f:AV→R):R:=forceI (Int.sub x y) fun n=>wrapK k n f
def mulH (k:IntKind) (x y:Int) (f:AV→R):R:=forceI (Int.mul x y) fun n=>wrapK k n f
def quoH (k:IntKind) (x y:Int) (f:AV→R):R:=iteB (intEq y 0) (.bad 0) (forceI (Int.tdiv x y) fun n=>wrapK k n f)
def remH (k:IntKind) (x y:Int) (f:AV→R):R:=iteB (intEq y 0) (.bad 0) (forceI (Int.tmod x y) fun n=>f (.int k n))
def kbits (k:IntKind):Nat:=IntKind.rec (motive:=fun _=>Nat) 8 16 32 64 8 16 32 64 k
def kmax (k:IntKind):Nat:=IntKind.rec (motive:=fun _=>Nat) 127 32767 2147483647 9223372036854775807 255 65535 4294967295 18446744073709551615 k
def bitsH (h:Nat→Nat→Nat) (k:IntKind) (x y:Int) (f:AV→R):R:=
 natK x fun x=>natK y fun y=>ifB 0 (Nat.ble x (kmax k)) (ifB 0 (Nat.ble y (kmax k)) (forceN (h x y) fun z=>f (.int k (Int.ofNat z))))
def andH (k:IntKind) (x y:Int) (f:AV→R):R:=bitsH Nat.land k x y f
def orH (k:IntKind) (x y:Int) (f:AV→R):R:=bitsH Nat.lor k x y f
def xorH (k:IntKind) (x y:Int) (f:AV→R):R:=bitsH Nat.xor k x y f
def andNotH (k:IntKind) (x y:Int) (f:AV→R):R:=bitsH (fun x y=>Nat.xor x (Nat.land x y)) k x y f
def shlH (k:IntKind) (x y:Int) (f:AV→R):R:=natK y fun y=>ifB 0 (Nat.ble y (kbits k)) (forceI (Int.mul x (Int.ofNat (Nat.pow 2 y))) fun n=>wrapK k n f)
def shrH (k:IntKind) (x y:Int) (f:AV→R):R:=natK x fun x=>natK y fun y=>ifB 0 (Nat.ble y (kbits k)) (forceN (Nat.div x (Nat.pow 2 y)) fun z=>f (.int k (Int.ofNat z)))
def cellEq (a b:AV) (f:Bool→R):R:=
 match a,b with
 | .int k x,.int j y=>ifB 0 (kindEq k j) (f (intEq x y))
 | .str x,.str y=>f (strEq x y)
 | .bool x,.bool y=>f (iteB x y (Bool.not y))
 |_,_=>.bad 0
def cellsEq (xs ys:List AV) (f:Bool→R):R:=
 List.rec (motive:=fun _=>List AV→(Bool→R)→R) (fun ys f=>List.rec (motive:=fun _=>R) (f true) (fun _ _ _=>f false) ys)
  (fun x _ ih ys f=>List.rec (motive:=fun _=>R) (R.bad 0) (fun y ys _=>cellEq x y fun b=>Bool.rec (motive:=fun _=>R) (f false) (ih ys f) b) ys) xs ys f
def G.isFlat (g:G) (t:TypeId):Bool:=List.rec (motive:=fun _=>Bool) false (fun u _ ih=>iteB (Nat.beq t u) true ih) g.flat
def sameCls (x z:AV):Bool:=match x,z with
 | .int _ _,.int _ _=>true
 | .str _,.str _=>true
 | .bool _,.bool _=>true
 |_,_=>false
def fitsB (xs zs:List AV):Bool:=
 List.rec (motive:=fun _=>List AV→Bool) (fun zs=>List.rec (motive:=fun _=>Bool) true (fun _ _ _=>false) zs)
  (fun x _ ih zs=>List.rec (motive:=fun _=>Bool) false (fun z zs _=>iteB (sameCls x z) (ih zs) false) zs) xs zs
def flatEq (g:G) (t:TypeId) (xs ys:List AV) (f:Bool→R):R:=
 ifB 0 (g.isFlat t) (optK 0 (g.zero t) fun z=>ifB 0 (fitsB xs z.cells) (ifB 0 (fitsB ys z.cells) (cellsEq xs ys f)))
def keyEq (g:G) (t:TypeId) (a b:AV) (f:Bool→R):R:=
 match a,b with
 | .agg xs,.agg ys=>flatEq g t xs ys f
 |a,b=>cellEq a b f
def blkK (m:Mem) (b:Nat) (f:Blk→R):R:=Mem.rec (motive:=fun _=>Nat→(Blk→R)→R) (fun _ t b f=>t.getK b f) m b f
def newK (m:Mem) (x:Blk) (f:Nat→Mem→R):R:=Mem.rec (motive:=fun _=>Blk→(Nat→Mem→R)→R) (fun n t x f=>t.setK n x fun t=>forceN (Nat.succ n) fun n'=>f n ⟨n',t⟩) m x f
def putK (m:Mem) (b:Nat) (x:Blk) (f:Mem→R):R:=Mem.rec (motive:=fun _=>Nat→Blk→(Mem→R)→R) (fun n t b x f=>t.setK b x fun t=>f ⟨n,t⟩) m b x f
def delBlkK (m:Mem) (b:Nat) (f:Mem→R):R:=Mem.rec (motive:=fun _=>Nat→(Mem→R)→R) (fun n t b f=>t.delK b fun t=>f ⟨n,t⟩) m b f
def ptrEq (g:G) (e:TypeId) (m:Mem) (b o c p:Nat) (f:Bool→R):R:=
 optK 0 (g.size e) fun s=>ifB 0 (Nat.ble 1 s) (blkK m b fun x=>blkK m c fun y=>match x,y with
  | .cells _ _ _ 0,.cells _ _ _ 0=>iteB (Nat.beq b c) (f (Nat.beq o p)) (f false)
  |_,_=>.bad 0)
def eqPtr (g:G) (e:TypeId) (m:Mem) (a b:AV) (f:Bool→R):R:=
 match a,b with
 | .nilp,.nilp=>f true
 | .nilp,.ptr _ _=>f false
 | .ptr _ _,.nilp=>f false
 | .ptr b o,.ptr c p=>ptrEq g e m b o c p f
 |_,_=>.bad 0
def eqNil (lit:Bool) (d:TypeDesc) (a b:AV) (f:Bool→R):R:=
 match d with
 | .slice _=>(match a,b with| .nils,.nils=>f true| .nils,.sl _ _ _ _=>f false| .sl _ _ _ _,.nils=>f false| .nils,.dead _ _ _ _=>f false| .dead _ _ _ _,.nils=>f false|_,_=>.bad 0)
 | .map _ _=>(match a,b with| .nilm,.nilm=>f true| .nilm,.mp _=>f false| .mp _,.nilm=>f false|_,_=>.bad 0)
 | .func _ _ _=>(match a,b with| .nilf,.nilf=>f true| .nilf,.fn _ _ _=>f false| .fn _ _ _,.nilf=>f false|_,_=>.bad 0)
 | .interface _=>(match a,b with| .nili,.nili=>ifB 0 lit (f true)| .nili,.ifc _ _=>f false| .ifc _ _,.nili=>f false|_,_=>.bad 0)
 |_=>.bad 0
def eqK (g:G) (t:TypeId) (lit:Bool) (m:Mem) (a b:AV) (f:Bool→R):R:=
 match g.desc t with
 | .bool=>(match a,b with| .bool x,.bool y=>f (iteB x y (Bool.not y))|_,_=>.bad 0)
 | .pointer e=>eqPtr g e m a b f
 | .struct _=>(match a,b with| .agg xs,.agg ys=>flatEq g t xs ys f|_,_=>.bad 0)
 | .array _ _=>(match a,b with| .agg xs,.agg ys=>flatEq g t xs ys f|_,_=>.bad 0)
 |d=>eqNil lit d a b f
def addS (s:List UInt8) (b:AV) (f:AV→R):R:=AV.rec (motive_1:=fun _=>List UInt8→(AV→R)→R) (motive_2:=fun _=>Unit) (fun _ _ _=>R.bad 0) (fun _ _ _ _=>R.bad 0) (fun y s f=>appK s y fun l=>lenK l fun n=>ifB 0 (Nat.ble n 4611686018427387904) (f (.str l))) (fun _ _ _ _=>R.bad 0) (fun _ _=>R.bad 0) (fun _ _ _ _ _ _=>R.bad 0) (fun _ _=>R.bad 0) (fun _ _ _=>R.bad 0) (fun _ _=>R.bad 0) (fun _ _ _ _ _ _ _=>R.bad 0) (fun _ _=>R.bad 0) (fun _ _ _ _ _=>R.bad 0) (fun _ _=>R.bad 0) (fun _ _ _ _=>R.bad 0) (fun _ _ _ _=>R.bad 0) (fun _ _ _ _ _ _=>R.bad 0) () (fun _ _ _ _=>()) b s f
def cmpS (h:List UInt8→List UInt8→Bool) (s:List UInt8) (b:AV) (f:AV→R):R:=AV.rec (motive_1:=fun _=>(List UInt8→List UInt8→Bool)→List UInt8→(AV→R)→R) (motive_2:=fun _=>Unit) (fun _ _ _ _=>R.bad 0) (fun _ _ _ _ _=>R.bad 0) (fun y h s f=>retB (h s y) f) (fun _ _ _ _ _=>R.bad 0) (fun _ _ _=>R.bad 0) (fun _ _ _ _ _ _ _=>R.bad 0) (fun _ _ _=>R.bad 0) (fun _ _ _ _=>R.bad 0) (fun _ _ _=>R.bad 0) (fun _ _ _ _ _ _ _ _=>R.bad 0) (fun _ _ _=>R.bad 0) (fun _ _ _ _ _ _=>R.bad 0) (fun _ _ _=>R.bad 0) (fun _ _ _ _ _=>R.bad 0) (fun _ _ _ _ _=>R.bad 0) (fun _ _ _ _ _ _ _=>R.bad 0) () (fun _ _ _ _=>()) b h s f
def eqOther (g:G) (t:TypeId) (lit:Bool) (m:Mem) (a b:AV) (f:AV→R):R:=eqK g t lit m a b fun r=>retB r f
def neOther (g:G) (t:TypeId) (lit:Bool) (m:Mem) (a b:AV) (f:AV→R):R:=eqK g t lit m a b fun r=>retB (Bool.not r) f
def eqV (g:G) (t:TypeId) (lit:Bool) (m:Mem) (a b:AV) (f:AV→R):R:=AV.rec (motive_1:=fun _=>AV→AV→G→TypeId→Bool→Mem→(AV→R)→R) (motive_2:=fun _=>Unit) (fun _ a b g t lit m f=>eqOther g t lit m a b f) (fun _ _ a b _ _ _ _ f=>int2 (fun _ x y f=>retB (intEq x y) f) a b f) (fun s _ b _ _ _ _ f=>cmpS strEq s b f) (fun _ _ a b g t lit m f=>eqOther g t lit m a b f) (fun a b g t lit m f=>eqOther g t lit m a b f) (fun _ _ _ _ a b g t lit m f=>eqOther g t lit m a b f) (fun a b g t lit m f=>eqOther g t lit m a b f) (fun _ a b g t lit m f=>eqOther g t lit m a b f) (fun a b g t lit m f=>eqOther g t lit m a b f) (fun _ _ _ _ _ a b g t lit m f=>eqOther g t lit m a b f) (fun a b g t lit m f=>eqOther g t lit m a b f) (fun _ _ _ a b g t lit m f=>eqOther g t lit m a b f) (fun a b g t lit m f=>eqOther g t lit m a b f) (fun _ _ a b g t lit m f=>eqOther g t lit m a b f) (fun _ _ a b g t lit m f=>eqOther g t lit m a b f) (fun _ _ _ _ a b g t lit m f=>eqOther g t lit m a b f) () (fun _ _ _ _=>()) a a b g t lit m f
def neV (g:G) (t:TypeId) (lit:Bool) (m:Mem) (a b:AV) (f:AV→R):R:=AV.rec (motive_1:=fun _=>AV→AV→G→TypeId→Bool→Mem→(AV→R)→R) (motive_2:=fun _=>Unit) (fun _ a b g t lit m f=>neOther g t lit m a b f) (fun _ _ a b _ _ _ _ f=>int2 (fun _ x y f=>retB (Bool.not (intEq x y)) f) a b f) (fun s _ b _ _ _ _ f=>cmpS (fun x y=>Bool.not (strEq x y)) s b f) (fun _ _ a b g t lit m f=>neOther g t lit m a b f) (fun a b g t lit m f=>neOther g t lit m a b f) (fun _ _ _ _ a b g t lit m f=>neOther g t lit m a b f) (fun a b g t lit m f=>neOther g t lit m a b f) (fun _ a b g t lit m f=>neOther g t lit m a b f) (fun a b g t lit m f=>neOther g t lit m a b f) (fun _ _ _ _ _ a b g t lit m f=>neOther g t lit m a b f) (fun a b g t lit m f=>neOther g t lit m a b f) (fun _ _ _ a b g t lit m f=>neOther g t lit m a b f) (fun a b g t lit m f=>neOther g t lit m a b f) (fun _ _ a b g t lit m f=>neOther g t lit m a b f) (fun _ _ a b g t lit m f=>neOther g t lit m a b f) (fun _ _ _ _ a b g t lit m f=>neOther g t lit m a b f) () (fun _ _ _ _=>()) a a b g t lit m f
def addV (a b:AV) (f:AV→R):R:=AV.rec (motive_1:=fun _=>AV→AV→(AV→R)→R) (motive_2:=fun _=>Unit) (fun _ _ _ _=>R.bad 0) (fun _ _ a b f=>int2 addH a b f) (fun s _ b f=>addS s b f) (fun _ _ _ _ _=>R.bad 0) (fun _ _ _=>R.bad 0) (fun _ _ _ _ _ _ _=>R.bad 0) (fun _ _ _=>R.bad 0) (fun _ _ _ _=>R.bad 0) (fun _ _ _=>R.bad 0) (fun _ _ _ _ _ _ _ _=>R.bad 0) (fun _ _ _=>R.bad 0) (fun _ _ _ _ _ _=>R.bad 0) (fun _ _ _=>R.bad 0) (fun _ _ _ _ _=>R.bad 0) (fun _ _ _ _ _=>R.bad 0) (fun _ _ _ _ _ _ _=>R.bad 0) () (fun _ _ _ _=>()) a a b f
def cmpV (h:Int→Int→Bool) (hs:List UInt8→List UInt8→Bool) (a b:AV) (f:AV→R):R:=
 AV.rec (motive_1:=fun _=>(Int→Int→Bool)→(List UInt8→List UInt8→Bool)→AV→AV→(AV→R)→R) (motive_2:=fun _=>Unit) (fun _ _ _ _ _ _=>R.bad 0) (fun _ _ h _ a b f=>int2 (fun _ x y f=>retB (h x y) f) a b f) (fun s _ hs _ b f=>cmpS hs s b f) (fun _ _ _ _ _ _ _=>R.bad 0) (fun _ _ _ _ _=>R.bad 0) (fun _ _ _ _ _ _ _ _ _=>R.bad 0) (fun _ _ _ _ _=>R.bad 0) (fun _ _ _ _ _ _=>R.bad 0) (fun _ _ _ _ _=>R.bad 0) (fun _ _ _ _ _ _ _ _ _ _=>R.bad 0) (fun _ _ _ _ _=>R.bad 0) (fun _ _ _ _ _ _ _ _=>R.bad 0) (fun _ _ _ _ _=>R.bad 0) (fun _ _ _ _ _ _ _=>R.bad 0) (fun _ _ _ _ _ _ _=>R.bad 0) (fun _ _ _ _ _ _ _ _ _=>R.bad 0) () (fun _ _ _ _=>()) a h hs a b f
def binK (op:BinOp) (g:G) (t:TypeId) (lit:Bool) (m:Mem) (a b:AV) (f:AV→R):R:=
 BinOp.rec (motive:=fun _=>G→TypeId→Bool→Mem→AV→AV→(AV→R)→R) (fun _ _ _ _ a b f=>addV a b f) (fun _ _ _ _ a b f=>int2 subH a b f) (fun _ _ _ _ a b f=>int2 mulH a b f) (fun _ _ _ _ a b f=>int2 quoH a b f) (fun _ _ _ _ a b f=>int2 remH a b f) (fun _ _ _ _ a b f=>int2 andH a b f) (fun _ _ _ _ a b f=>int2 orH a b f) (fun _ _ _ _ a b f=>int2 xorH a b f) (fun _ _ _ _ a b f=>int2s shlH a b f) (fun _ _ _ _ a b f=>int2s shrH a b f) (fun _ _ _ _ a b f=>int2 andNotH a b f) (fun g t lit m a b f=>eqV g t lit m a b f) (fun g t lit m a b f=>neV g t lit m a b f) (fun _ _ _ _ a b f=>cmpV intLt strLt a b f) (fun _ _ _ _ a b f=>cmpV (fun x y=>Bool.not (intLt y x)) (fun x y=>Bool.not (strLt y x)) a b f) (fun _ _ _ _ a b f=>cmpV (fun x y=>intLt y x) (fun x y=>strLt y x) a b f) (fun _ _ _ _ a b f=>cmpV (fun x y=>Bool.not (intLt x y)) (fun x y=>Bool.not (strLt x y)) a b f) op g t lit m a b f
def isLit (x:Operand):Bool:=match x with| .const _=>true|_=>false
def litNil (x y:Operand):Bool:=iteB (isLit x) true (isLit y)
def unK (op:UnOp) (a:AV) (f:AV→R):R:=
 match op,a with
 | .not,.bool b=>retB (Bool.not b) f
 | .neg,.int k n=>forceI (Int.neg n) fun n=>wrapK k n f
 |_,_=>.bad 0
def loadCells (agg:Bool) (sz:Nat) (c:List AV) (o:Nat) (f:AV→R):R:=iteB agg (dropK c o fun c=>takeK c sz fun l=>f (.agg l)) (nthK c o f)
def loadK (agg:Bool) (sz:Nat) (m:Mem) (p:AV) (f:AV→R):R:=
 AV.rec (motive_1:=fun _=>Bool→Nat→Mem→(AV→R)→R) (motive_2:=fun _=>Unit) (fun _ _ _ _ _=>R.bad 0) (fun _ _ _ _ _ _=>R.bad 0) (fun _ _ _ _ _=>R.bad 0) (fun b o agg sz m f=>blkK m b fun x=>Blk.rec (motive:=fun _=>Bool→Nat→Nat→(AV→R)→R) (fun c _ _ _ agg sz o f=>loadCells agg sz c o f) (fun _ _ _ _ _ _=>R.bad 0) (fun _ _ _ _ _ _ _ _=>R.bad 0) (fun _ _ _ _ _ _ _ _ _ _ _ _=>R.bad 0) x agg sz o f) (fun _ _ _ _=>R.bad 0) (fun _ _ _ _ _ _ _ _=>R.bad 0) (fun _ _ _ _=>R.bad 0) (fun _ _ _ _ _=>R.bad 0) (fun _ _ _ _=>R.bad 0) (fun _ _ _ _ _ _ _ _ _=>R.bad 0) (fun _ _ _ _=>R.bad 0) (fun _ _ _ _ _ _ _=>R.bad 0) (fun _ _ _ _=>R.bad 0) (fun _ _ _ _ _ _=>R.bad 0) (fun _ _ _ _ _ _=>R.bad 0) (fun _ _ _ _ _ _ _ _=>R.bad 0) () (fun _ _ _ _=>()) p agg sz m f
def storeAgg (sz:Nat) (c:List AV) (o:Nat) (vs:List AV) (f:List AV→R):R:=lenK vs fun n=>ifB 0 (Nat.beq n sz) (ifB 0 (allCells vs) (spliceK c o vs f))
def storeOne (sz:Nat) (c:List AV) (o:Nat) (v:AV) (f:List AV→R):R:=ifB 0 (Nat.beq 1 sz) (setNthK c o v f)
def storeCells (sz:Nat) (c:List AV) (o:Nat) (v:AV) (f:List AV→R):R:=
 AV.rec (motive_1:=fun _=>Nat→List AV→Nat→AV→(List AV→R)→R) (motive_2:=fun _=>Unit) (fun _ sz c o v f=>storeOne sz c o v f) (fun _ _ sz c o v f=>storeOne sz c o v f) (fun _ sz c o v f=>storeOne sz c o v f) (fun _ _ sz c o v f=>storeOne sz c o v f) (fun sz c o v f=>storeOne sz c o v f) (fun _ _ _ _ sz c o v f=>storeOne sz c o v f) (fun sz c o v f=>storeOne sz c o v f) (fun _ sz c o v f=>storeOne sz c o v f) (fun sz c o v f=>storeOne sz c o v f) (fun _ _ _ _ _ sz c o v f=>storeOne sz c o v f) (fun sz c o v f=>storeOne sz c o v f) (fun _ _ _ sz c o v f=>storeOne sz c o v f) (fun sz c o v f=>storeOne sz c o v f) (fun vs _ sz c o _ f=>storeAgg sz c o vs f) (fun _ _ _ _ _ _ _=>R.bad 0) (fun _ _ _ _ sz c o v f=>storeOne sz c o v f) () (fun _ _ _ _=>()) v sz c o v f
def storeK (sz:Nat) (m:Mem) (p v:AV) (f:Mem→R):R:=
 AV.rec (motive_1:=fun _=>Nat→Mem→AV→(Mem→R)→R) (motive_2:=fun _=>Unit) (fun _ _ _ _ _=>R.bad 0) (fun _ _ _ _ _ _=>R.bad 0) (fun _ _ _ _ _=>R.bad 0) (fun b o sz m v f=>blkK m b fun x=>Blk.rec (motive:=fun _=>Nat→Mem→Nat→Nat→AV→(Mem→R)→R) (fun c e gr z sz m b o v f=>ifB 0 (Nat.ble z 1) (storeCells sz c o v fun c=>putK m b (.cells c e gr z) f)) (fun _ _ _ _ _ _ _ _=>R.bad 0) (fun _ _ _ _ _ _ _ _ _ _=>R.bad 0) (fun _ _ _ _ _ _ _ _ _ _ _ _ _ _=>R.bad 0) x sz m b o v f) (fun _ _ _ _=>R.bad 0) (fun _ _ _ _ _ _ _ _=>R.bad 0) (fun _ _ _ _=>R.bad 0) (fun _ _ _ _ _=>R.bad 0) (fun _ _ _ _=>R.bad 0) (fun _ _ _ _ _ _ _ _ _=>R.bad 0) (fun _ _ _ _=>R.bad 0) (fun _ _ _ _ _ _ _=>R.bad 0) (fun _ _ _ _=>R.bad 0) (fun _ _ _ _ _ _=>R.bad 0) (fun _ _ _ _ _ _=>R.bad 0) (fun _ _ _ _ _ _ _ _=>R.bad 0) () (fun _ _ _ _=>()) p sz m v f
def fieldOf (g:G) (t:TypeId) (i:Nat):Option Field:=match g.desc t with| .struct fs=>fs[i]? |_=>none
def fieldOff (g:G) (t:TypeId) (i:Nat):Option Nat:=match fieldOf g t i with|some fd=>(match g.size fd.type with|some (Nat.succ _)=>some fd.offset|_=>none)|none=>none
def partK (g:G) (t:TypeId) (cs:List AV) (off:Nat) (f:AV→R):R:=
 optK 0 (g.size t) fun sz=>loadCells (g.agg t) sz cs off f
def fillK (place:Nat→Option (Nat×Nat)) (fr:Fr) (parts:List (Nat×Operand)) (cs:List AV) (f:List AV→R):R:=
 foldK (fun p cs k=>ev p.2 fr fun v=>optK 0 (place p.1) fun pl=>lenK v.cells fun n=>ifB 0 (Nat.beq n pl.2) (spliceK cs pl.1 v.cells k)) parts cs f
def structPlaces (g:G) (fs:Array Field):Option (List (Nat×Nat)):=fs.toList.mapM fun f=>(g.info f.type).map fun i=>(f.offset,i.size)
def buildK (g:G) (t:TypeId) (fr:Fr) (parts:List (Nat×Operand)) (f:AV→R):R:=
 optK 0 (g.zero t) fun z=>match z with
 | .agg zs=>(match g.desc t with
  | .struct fs=>optK 0 (structPlaces g fs) fun l=>fillK (fun i=>l[i]?) fr parts zs fun l=>f (.agg l)
  | .array _ e=>optK 0 (g.size e) fun s=>fillK (fun i=>some (Nat.mul i s,s)) fr parts zs fun l=>f (.agg l)
  |_=>.bad 0)
 |_=>.bad 0
def buildSliceK (g:G) (t:TypeId) (n:Nat) (fr:Fr) (parts:List (Nat×Operand)) (m:Mem) (f:AV→Mem→R):R:=
 match g.desc t with
 | .slice e=>optK 0 (g.size e) fun s=>ifB 0 (Nat.ble 1 s) (ifB 0 (Nat.ble (Nat.mul n s) 16777216) (optK 0 (g.zero e) fun z=>lenK z.cells fun k=>ifB 0 (Nat.beq k s) (replK z.cells n fun zs=>
   fillK (fun i=>some (Nat.mul i s,s)) fr parts zs fun l=>newK m (.cells l e false 0) fun b m=>f (.sl b 0 n (some n)) m)))
 |_=>.bad 0
def boundK (x:Option AV) (n:Nat) (k:Nat→R):R:=match x with|some v=>asNatK v k|none=>k n
def growOk (g:G) (s:Nat) (m:Mem) (b:Nat) (k:R):R:=blkK m b fun y=>match y with
 | .cells _ e true _=>optK 0 (g.size e) fun s'=>ifB 0 (Nat.beq s' s) k
 |_=>.bad 0
def sliceSl (g:G) (s b o n:Nat) (cap:Option Nat) (lo hi:Option AV) (m:Mem) (f:AV→Mem→R):R:=
 boundK hi n fun h=>boundK lo 0 fun l=>ifB 0 (Nat.ble l h) (forceN (Nat.sub h l) fun d=>match cap with
  |some c=>ifB 0 (Nat.ble h c) (iteB (Nat.beq c l) (f (.sl b o d (some 0)) m) (forceN (Nat.add o (Nat.mul l s)) fun o=>forceN (Nat.sub c l) fun c=>f (.sl b o d (some c)) m))
  |none=>ifB 0 (Nat.ble h n) (iteB (Nat.beq l 0) (f (.sl b o d none) m) (iteB (Nat.beq d 0) (forceN (Nat.mul l s) fun d=>f (.dead b o l d) m)
    (growOk g s m b (forceN (Nat.add o (Nat.mul l s)) fun o=>f (.sl b o d none) m)))))
def sliceArr (s b o n:Nat) (lo hi:Option AV) (m:Mem) (f:AV→Mem→R):R:=
 boundK hi n fun h=>boundK lo 0 fun l=>ifB 0 (Nat.ble l h) (ifB 0 (Nat.ble h n) (forceN (Nat.sub h l) fun d=>forceN (Nat.sub n l) fun c=>iteB (Nat.beq c 0) (f (.sl b o d (some 0)) m) (forceN (Nat.add o (Nat.mul l s)) fun o=>f (.sl b o d (some c)) m)))
def sliceStr (s:List UInt8) (lo hi:Option AV) (m:Mem) (f:AV→Mem→R):R:=
 lenK s fun n=>boundK hi n fun h=>boundK lo 0 fun l=>ifB 0 (Nat.ble h n) (ifB 0 (Nat.ble l h) (dropK s l fun s=>forceN (Nat.sub h l) fun d=>takeK s d fun s=>f (.str s) m))
def sliceK (g:G) (t:TypeId) (x:AV) (lo hi:Option AV) (m:Mem) (f:AV→Mem→R):R:=
 match x with
 | .str s=>(match g.desc t with
  | .string=>sliceStr s lo hi m f
  |_=>.bad 0)
 | .nils=>(match g.desc t with
  | .slice e=>optK 0 (g.size e) fun _=>boundK hi 0 fun h=>boundK lo 0 fun l=>ifB 0 (Nat.beq h 0) (ifB 0 (Nat.beq l 0) (f .nils m))
  |_=>.bad 0)
 | .sl b o n cap=>(match g.desc t with
  | .slice e=>optK 0 (g.size e) fun s=>sliceSl g s b o n cap lo hi m f
  |_=>.bad 0)
 | .dead b o c d=>(match g.desc t with
  | .slice e=>optK 0 (g.size e) fun _=>boundK hi 0 fun h=>boundK lo 0 fun l=>ifB 0 (Nat.beq h 0) (ifB 0 (Nat.beq l 0) (f (.dead b o c d) m))
  |_=>.bad 0)
 | .ptr b o=>(match g.desc t with
  | .array n e=>optK 0 (g.size e) fun s=>sliceArr s b o n lo hi m f
  |_=>.bad 0)
 |_=>.bad 0
def elemSize (g:G) (t:TypeId):Option Nat:=match g.desc t with| .slice e=>g.size e| .array _ e=>g.size e|_=>none
def arrLen (g:G) (t:TypeId):Option Nat:=match g.desc t with| .array n _=>some n|_=>none
def isSlice (g:G) (t:TypeId):Bool:=match g.desc t with| .slice _=>true|_=>false
def idxSl (g:G) (t:TypeId) (b o n i:Nat) (f:AV→R):R:=ifB 0 (Nat.ble (Nat.succ i) n) (ifB 0 (isSlice g t) (optK 0 (elemSize g t) fun s=>forceN (Nat.add o (Nat.mul i s)) fun o=>f (.ptr b o)))
def idxArr (g:G) (t:TypeId) (b o i:Nat) (f:AV→R):R:=optK 0 (arrLen g t) fun n=>ifB 0 (Nat.ble (Nat.succ i) n) (optK 0 (elemSize g t) fun s=>forceN (Nat.add o (Nat.mul i s)) fun o=>f (.ptr b o))
def indexAddrK (g:G) (t:TypeId) (x i:AV) (f:AV→R):R:=
 asNatK i fun i=>AV.rec (motive_1:=fun _=>G→TypeId→Nat→(AV→R)→R) (motive_2:=fun _=>Unit) (fun _ _ _ _ _=>R.bad 0) (fun _ _ _ _ _ _=>R.bad 0) (fun _ _ _ _ _=>R.bad 0) (fun b o g t i f=>idxArr g t b o i f) (fun _ _ _ _=>R.bad 0) (fun b o n _ g t i f=>idxSl g t b o n i f) (fun _ _ _ _=>R.bad 0) (fun _ _ _ _ _=>R.bad 0) (fun _ _ _ _=>R.bad 0) (fun _ _ _ _ _ _ _ _ _=>R.bad 0) (fun _ _ _ _=>R.bad 0) (fun _ _ _ _ _ _ _=>R.bad 0) (fun _ _ _ _=>R.bad 0) (fun _ _ _ _ _ _=>R.bad 0) (fun _ _ _ _ _ _=>R.bad 0) (fun _ _ _ _ _ _ _ _=>R.bad 0) () (fun _ _ _ _=>()) x g t i f
def indexK (g:G) (t:TypeId) (x i:AV) (f:AV→R):R:=
 asNatK i fun i=>match x with
 | .str s=>(match g.desc t with
  | .string=>nthK s i fun b=>forceN b.toNat fun n=>f (.int .u8 (Int.ofNat n))
  |_=>.bad 0)
 | .agg cs=>(match g.desc t with
  | .array n e=>ifB 0 (Nat.ble (Nat.succ i) n) (optK 0 (g.size e) fun s=>partK g e cs (Nat.mul i s) f)
  |_=>.bad 0)
 |_=>.bad 0
def fieldAddrK (g:G) (t:TypeId) (x:AV) (i:Nat) (f:AV→R):R:=
 AV.rec (motive_1:=fun _=>G→TypeId→Nat→(AV→R)→R) (motive_2:=fun _=>Unit) (fun _ _ _ _ _=>R.bad 0) (fun _ _ _ _ _ _=>R.bad 0) (fun _ _ _ _ _=>R.bad 0) (fun b o g t i f=>optK 0 (fieldOff g t i) fun d=>forceN (Nat.add o d) fun o=>f (.ptr b o)) (fun _ _ _ _=>R.bad 0) (fun _ _ _ _ _ _ _ _=>R.bad 0) (fun _ _ _ _=>R.bad 0) (fun _ _ _ _ _=>R.bad 0) (fun _ _ _ _=>R.bad 0) (fun _ _ _ _ _ _ _ _ _=>R.bad 0) (fun _ _ _ _=>R.bad 0) (fun _ _ _ _ _ _ _=>R.bad 0) (fun _ _ _ _=>R.bad 0) (fun _ _ _ _ _ _=>R.bad 0) (fun _ _ _ _ _ _=>R.bad 0) (fun _ _ _ _ _ _ _ _=>R.bad 0) () (fun _ _ _ _=>()) x g t i f
def findK (g:G) (t:TypeId) (key:AV) (es:List Ent) (yes:Nat→Ent→R) (no:R):R:=
 List.rec (motive:=fun _=>Nat→R) (fun _=>no) (fun e _ ih i=>keyEq g t key e.key fun b=>Bool.rec (motive:=fun _=>R) (forceN (Nat.succ i) ih) (yes i e) b) es 0
def AV.plain (a:AV):Bool:=match a with| .int _ _=>true| .str _=>true| .bool _=>true|_=>false
def allPlain (l:List AV):Bool:=List.rec (motive:=fun _=>Bool) true (fun a _ ih=>iteB a.plain ih false) l
def AV.isKey (g:G) (t:TypeId) (k:AV):Bool:=match g.desc t,k with
 | .int _,.int _ _=>true
 | .string,.str _=>true
 | .bool,.bool _=>true
 | .struct _,.agg xs=>iteB (allPlain xs) (iteB (g.isFlat t) (match g.zero t with|some z=>fitsB xs z.cells|none=>false) false) false
 | .array _ _,.agg xs=>iteB (allPlain xs) (iteB (g.isFlat t) (match g.zero t with|some z=>fitsB xs z.cells|none=>false) false) false
 |_,_=>false
def lookupK (g:G) (t:TypeId) (x key:AV) (ok:Bool) (m:Mem) (f:AV→R):R:=
 match g.desc t with
 | .map kt e=>ifB 0 (key.isKey g kt) (
   let out (v:AV) (b:Bool):R:=iteB ok (f (.tup [v,.bool b])) (f v)
   let none_:R:=optK 0 (g.zero e) fun z=>out z false
   match x with
   | .nilm=>none_
   | .mp b=>blkK m b fun x=>(match x with
    | .map es _=>findK g kt key es (fun _ e=>out e.val true) none_
    |_=>.bad 0)
   |_=>.bad 0)
 |_=>.bad 0
def updateK (g:G) (t:TypeId) (x key val:AV) (m:Mem) (f:Mem→R):R:=
 match g.desc t with
 | .map kt _=>ifB 0 (key.isKey g kt) (match x with
   | .mp b=>blkK m b fun x=>(match x with
    | .map es c=>findK g kt key es (fun i e=>setNthK es i ⟨key,val,e.born⟩ fun es=>putK m b (.map es c) f)
      (appK es [⟨key,val,c⟩] fun es=>forceN (Nat.succ c) fun c=>putK m b (.map es c) f)
    |_=>.bad 0)
   |_=>.bad 0)
 |_=>.bad 0
def cellsOfK (s:Nat) (m:Mem) (x:AV) (f:Nat→List AV→R):R:=
 match x with
 | .nils=>f 0 []
 | .dead _ _ _ _=>f 0 []
 | .sl b o n _=>iteB (Nat.beq n 0) (f 0 []) (blkK m b fun y=>match y with
  | .cells c _ _ _=>dropK c o fun c=>takeK c (Nat.mul n s) fun l=>f n l
  |_=>.bad 0)
 | .str bs=>ifB 0 (Nat.beq s 1) (mapK (fun(u:UInt8) k=>forceN u.toNat fun n=>k (AV.int .u8 (Int.ofNat n))) bs fun l=>lenK l fun n=>f n l)
 |_=>.bad 0
def endOk (z:Nat) (cs old:List AV):Bool:=iteB (Nat.beq z 2) (Nat.beq cs.length old.length) true
def roomOk (by' need:Nat) (k:R):R:=ifB 0 (Nat.ble need 1099511627776) (ifB 0 (Nat.ble (Nat.mul by' (Nat.add (Nat.mul 2 need) 200)) 281474976710656) k)
def appendGrow (e:TypeId) (sz by':Nat) (b o len need:Nat) (new:List AV) (m:Mem) (f:AV→Mem→R):R:=
 roomOk by' need (ifB 0 (allCells new) (ifB 0 (Nat.beq (Nat.mod o sz) 0) (blkK m b fun y=>match y with
   | .cells cs e' true z=>ifB 0 (Nat.beq e e') (ifB 0 (Nat.ble z 2) (dropK cs o fun cs=>takeK cs (Nat.mul len sz) fun old=>appK old new fun cs'=>ifB 0 (endOk z cs old) (delBlkK m b fun m=>newK m (.cells cs' e true z) fun b' m=>f (.sl b' 0 need none) m)))
   |_=>.bad 0)))
def appendRoom (sz:Nat) (b o len need c:Nat) (new:List AV) (m:Mem) (f:AV→Mem→R):R:=
 ifB 0 (allCells new) (blkK m b fun y=>match y with
  | .cells cs e' gr z=>ifB 0 (Nat.ble z 1) (spliceK cs (Nat.add o (Nat.mul len sz)) new fun cs=>putK m b (.cells cs e' gr z) fun m=>f (.sl b o need (some c)) m)
  |_=>.bad 0)
def appendNew (e:TypeId) (sz by':Nat) (s:AV) (need:Nat) (new:List AV) (m:Mem) (f:AV→Mem→R):R:=
 roomOk by' need (cellsOfK sz m s fun _ old=>appK old new fun cs=>newK m (.cells cs e true 0) fun b m=>f (.sl b 0 need none) m)
def appendTo (e:TypeId) (sz by':Nat) (s:AV) (n:Nat) (new:List AV) (m:Mem) (f:AV→Mem→R):R:=
 match s with
 | .nils=>appendNew e sz by' .nils n new m f
 | .sl b o len (some c)=>forceN (Nat.add len n) fun need=>iteB (Nat.ble need c) (appendRoom sz b o len need c new m f) (appendNew e sz by' (.sl b o len (some c)) need new m f)
 | .sl b o len none=>forceN (Nat.add len n) fun need=>appendGrow e sz by' b o len need new m f
 |_=>.bad 0
def keepK (s:AV) (k:R):R:=
 match s with
 | .nils=>k
 | .sl _ _ l (some c)=>ifB 0 (Nat.ble l c) k
 | .sl _ _ _ none=>k
 |_=>.bad 0
def appendK (g:G) (t:TypeId) (s x:AV) (m:Mem) (f:AV→Mem→R):R:=
 match g.desc t with
 | .slice e=>optK 0 (g.size e) fun sz=>optK 0 (g.info e) fun ie=>ifB 0 (Nat.ble 1 sz) (optK 0 (g.zero e) fun z=>lenK z.cells fun k=>ifB 0 (Nat.beq k sz) (cellsOfK sz m x fun n new=>iteB (Nat.beq n 0) (keepK s (f s m)) (appendTo e sz ie.bytes s n new m f)))
 |_=>.bad 0
def copyK (g:G) (t:TypeId) (d x:AV) (m:Mem) (f:AV→Mem→R):R:=
 match g.desc t with
 | .slice e=>optK 0 (g.size e) fun sz=>ifB 0 (Nat.ble 1 sz) (cellsOfK sz m x fun n cs=>match d with
   | .nils=>f (.int .i64 0) m
   | .sl b o dl _=>forceN (Nat.min n dl) fun k=>iteB (Nat.beq k 0) (f (.int .i64 0) m) (takeK cs (Nat.mul k sz) fun cs=>ifB 0 (allCells cs) (blkK m b fun y=>match y with
     | .cells c e' gr z=>ifB 0 (Nat.ble z 1) (spliceK c o cs fun c=>putK m b (.cells c e' gr z) fun m=>f (.int .i64 (Int.ofNat k)) m)
     |_=>.bad 0))
   |_=>.bad 0)
 |_=>.bad 0
def retN (n:Nat) (f:AV→R):R:=f (.int .i64 (Int.ofNat n))
def isString (g:G) (t:TypeId):Bool:=match g.desc t with| .string=>true|_=>false
def isMap (g:G) (t:TypeId):Bool:=match g.desc t with| .map _ _=>true|_=>false
def lenOther (g:G) (t:TypeId) (f:AV→R):R:=optK 0 (arrLen g t) fun n=>retN n f
def lenMap (m:Mem) (b:Nat) (f:AV→R):R:=blkK m b fun y=>match y with| .map es _=>lenK es fun n=>retN n f|_=>.bad 0
def lenB (g:G) (t:TypeId) (x:AV) (m:Mem) (f:AV→R):R:=
 AV.rec (motive_1:=fun _=>G→TypeId→Mem→(AV→R)→R) (motive_2:=fun _=>Unit) (fun _ g t _ f=>lenOther g t f) (fun _ _ g t _ f=>lenOther g t f) (fun s g t _ f=>ifB 0 (isString g t) (lenK s fun n=>retN n f)) (fun _ _ g t _ f=>lenOther g t f) (fun g t _ f=>lenOther g t f) (fun _ _ n _ g t _ f=>ifB 0 (isSlice g t) (retN n f)) (fun g t _ f=>ifB 0 (isSlice g t) (retN 0 f)) (fun b g t m f=>ifB 0 (isMap g t) (lenMap m b f)) (fun g t _ f=>ifB 0 (isMap g t) (retN 0 f)) (fun _ _ _ _ _ g t _ f=>lenOther g t f) (fun g t _ f=>lenOther g t f) (fun _ _ _ g t _ f=>lenOther g t f) (fun g t _ f=>lenOther g t f) (fun _ _ g t _ f=>lenOther g t f) (fun _ _ g t _ f=>lenOther g t f) (fun _ _ _ _ g t _ f=>ifB 0 (isSlice g t) (retN 0 f)) () (fun _ _ _ _=>()) x g t m f
def bytesK (cs:List AV) (f:List UInt8→R):R:=
 mapK (fun(c:AV) k=>match c with| .int .u8 n=>natK n fun n=>k (UInt8.ofNat n)|_=>.bad 0) cs f
def known (g:G) (t:TypeId):Bool:=match g.desc t with| .invalid=>false|_=>true
def isU8 (g:G) (t:TypeId):Bool:=match g.desc t with| .int .u8=>true|_=>false
def convBytes (g:G) (src e:TypeId) (s:List UInt8) (m:Mem) (f:AV→Mem→R):R:=
 ifB 0 (isString g src) (ifB 0 (isU8 g e) (optK 0 (g.size e) fun k=>ifB 0 (Nat.beq k 1) (mapK (fun(u:UInt8) k=>forceN u.toNat fun n=>k (AV.int .u8 (Int.ofNat n))) s fun l=>lenK l fun n=>newK m (.cells l e true 1) fun b m=>f (.sl b 0 n none) m)))
def convString (g:G) (src:TypeId) (x:AV) (m:Mem) (f:AV→R):R:=
 match g.desc src with
 | .slice e=>ifB 0 (isU8 g e) (cellsOfK 1 m x fun _ cs=>bytesK cs fun l=>f (.str l))
 |_=>.bad 0
def convToUnsafe (g:G) (src:TypeId) (b o:Nat) (m:Mem) (f:AV→R):R:=
 match g.desc src with
 | .pointer t=>optK 0 (g.size t) fun s=>ifB 0 (Nat.ble 1 s) (blkK m b fun y=>match y with| .cells c _ _ _=>nthK c o fun _=>f (.ptr b o)|_=>.bad 0)
 |_=>.bad 0
def convFromUnsafe (g:G) (src u:TypeId) (b o:Nat) (m:Mem) (f:AV→R):R:=
 match g.desc src with
 | .unsafePointer=>optK 0 (g.size u) fun s=>ifB 0 (Nat.ble 1 s) (ifB 0 (Nat.beq o 0) (blkK m b fun y=>match y with
   | .cells c e false z=>ifB 0 (Nat.ble z 2) (ifB 0 (Nat.beq e u) (lenK c fun n=>ifB 0 (Nat.ble s n) (f (.ptr b o))))
   |_=>.bad 0))
 |_=>.bad 0
def convK (g:G) (src dst:TypeId) (x:AV) (m:Mem) (f:AV→Mem→R):R:=
 ifB 0 (known g src) (match g.desc dst,x with
 | .int k,.int _ n=>wrapK k n fun v=>f v m
 | .string,.str s=>f (.str s) m
 | .slice e,.str s=>convBytes g src e s m f
 | .string,.nils=>convString g src .nils m fun v=>f v m
 | .string,.sl b o n c=>convString g src (.sl b o n c) m fun v=>f v m
 | .unsafePointer,.ptr b o=>convToUnsafe g src b o m fun v=>f v m
 | .pointer u,.ptr b o=>convFromUnsafe g src u b o m fun v=>f v m
 |_,_=>.bad 0)
def makeSliceK (g:G) (t:TypeId) (l c:AV) (m:Mem) (f:AV→Mem→R):R:=
 match g.desc t with
 | .slice e=>asNatK l fun l=>asNatK c fun c=>ifB 0 (Nat.ble l c) (ifB 0 (Nat.ble c 1048576) (optK 0 (g.size e) fun s=>ifB 0 (Nat.ble 1 s) (optK 0 (g.zero e) fun z=>lenK z.cells fun k=>ifB 0 (Nat.beq k s) (optK 0 (g.info e) fun ie=>ifB 0 (Nat.ble (Nat.mul ie.bytes c) 281474976710656) (replK z.cells c fun zs=>newK m (.cells zs e false 0) fun b m=>f (.sl b 0 l (some c)) m)))))
 |_=>.bad 0
def pickI (b:Bool) (x y:Int):Int:=Bool.rec y x b
def extremeK (max:Bool) (vs:List AV) (f:AV→R):R:=
 match vs with
 | .int k x::rest=>foldK (fun v (a:Int) k'=>asIntK v fun y=>iteB (intLt (pickI max a y) (pickI max y a)) (k' y) (k' a)) rest x fun n=>f (.int k n)
 |_=>.bad 0
def isBytePtr (g:G) (t:TypeId):Bool:=match g.desc t with| .pointer u=>isU8 g u|_=>false
def unsafeStrK (g:G) (pt:TypeId) (p n:AV) (m:Mem) (f:AV→Mem→R):R:=
 asNatK n fun n=>match p with
 | .nilp=>ifB 0 (Nat.beq n 0) (f (.str []) m)
 | .ptr b o=>iteB (Nat.beq n 0) (f (.str []) m) (ifB 0 (isBytePtr g pt) (blkK m b fun y=>match y with
   | .cells c e gr z=>ifB 0 (Nat.ble z 2) (ifB 0 (isU8 g e) (optK 0 (g.size e) fun s=>ifB 0 (Nat.beq s 1) (ifB 0 (Nat.ble n 1099511627776) (dropK c o fun c'=>takeK c' n fun cs=>bytesK cs fun l=>
     iteB (Nat.beq z 1) (putK m b (.cells c e gr 4) fun m=>f (.str l) m) (putK m b (.cells c e gr 2) fun m=>f (.str l) m)))))
   |_=>.bad 0))
 |_=>.bad 0
inductive Tgt where
 |fn (f:FuncId) (args:List AV)
 |yield (l:Nat) (args:List AV)
abbrev CallF:=Tgt→Mem→(AV→Mem→R)→R
def resolveFn (fn:Fn) (first cap args:List AV) (k:Tgt→R):R:=
 match fn with
 | .func i=>appK args cap fun a=>appK first a fun a=>k (.fn i a)
 | .yield l=>appK first args fun a=>k (.yield l a)
 |_=>.bad 0
def resolveK (f:AV) (args:List AV) (k:Tgt→R):R:=AV.rec (motive_1:=fun _=>List AV→(Tgt→R)→R) (motive_2:=fun _=>Unit) (fun _ _ _=>R.bad 0) (fun _ _ _ _=>R.bad 0) (fun _ _ _=>R.bad 0) (fun _ _ _ _=>R.bad 0) (fun _ _=>R.bad 0) (fun _ _ _ _ _ _=>R.bad 0) (fun _ _=>R.bad 0) (fun _ _ _=>R.bad 0) (fun _ _=>R.bad 0) (fun fn first cap _ _ args k=>resolveFn fn first cap args k) (fun _ _=>R.bad 0) (fun _ _ _ _ _=>R.bad 0) (fun _ _=>R.bad 0) (fun _ _ _ _=>R.bad 0) (fun _ _ _ _=>R.bad 0) (fun _ _ _ _ _ _=>R.bad 0) () (fun _ _ _ _=>()) f args k
def methodOf (g:G) (t:TypeId) (name:String):Option FuncId:=
 match g.info t with
 |some i=>(match i.methods.toList.find? (fun m=>m.name==name) with
  |some m=>if m.path.isEmpty then(match m.func with
    |some (f,true)=>(match g.desc t with| .pointer _=>some f|_=>none)
    |some (f,false)=>(match g.desc t with| .pointer _=>none| .invalid=>none|_=>some f)
    |none=>none) else none
  |none=>none)
 |none=>none
def methodK (g:G) (recv:AV) (name:String) (args:List AV) (k:Tgt→R):R:=
 match recv with
 | .ifc t v=>optK 0 (methodOf g t name) fun f=>k (.fn f (v::args))
 |_=>.bad 0
def capK (g:G) (t:TypeId) (x:AV) (f:AV→R):R:=
 match x with
 | .nils=>ifB 0 (isSlice g t) (retN 0 f)
 | .sl _ _ _ (some c)=>ifB 0 (isSlice g t) (retN c f)
 |_=>.bad 0
def sliceDataK (x:AV) (f:AV→R):R:=
 match x with
 | .nils=>f .nilp
 | .sl b o _ (some c)=>ifB 0 (Nat.ble 1 c) (f (.ptr b o))
 | .sl b o n none=>ifB 0 (Nat.ble 1 n) (f (.ptr b o))
 |_=>.bad 0
def builtinK (g:G) (b:Builtin) (ts:List TypeId) (args:List AV) (m:Mem) (f:AV→Mem→R):R:=
 match b with
 | .len=>(match ts,args with|t::_,x::_=>lenB g t x m fun v=>f v m|_,_=>.bad 0)
 | .append=>(match ts,args with
   |t::u::_,s::x::_=>(match g.desc u with| .slice _=>appendK g t s x m f| .string=>appendK g t s x m f|_=>.bad 0)
   |_,_=>.bad 0)
 | .copy=>(match ts,args with|t::_,d::x::_=>copyK g t d x m f|_,_=>.bad 0)
 | .max=>extremeK true args fun v=>f v m
 | .min=>extremeK false args fun v=>f v m
 | .cap=>(match ts,args with|t::_,x::_=>capK g t x fun v=>f v m|_,_=>.bad 0)
 | .delete=>(match ts,args with
   |t::_,.mp b::key::_=>(match g.desc t with
     | .map kt _=>ifB 0 (key.isKey g kt) (blkK m b fun y=>match y with
       | .map es c=>findK g kt key es (fun i _=>takeK es i fun l=>dropK es (Nat.succ i) fun r=>appK l r fun es=>putK m b (.map es c) fun m=>f (.tup []) m) (f (.tup []) m)
       |_=>.bad 0)
     |_=>.bad 0)
   |_,_=>.bad 0)
 | .unsafeSliceData=>(match args with|[x]=>sliceDataK x fun v=>f v m|_=>.bad 0)
 | .unsafeString=>(match ts,args with|t::_,[p,n]=>unsafeStrK g t p n m f|_,_=>.bad 0)
 |_=>.bad 0
def andR (a b:R):R:=R.rec (motive:=fun _=>R→R) (fun b=>b) (fun n _=>.bad n) (fun _ _ _ _=>.bad 0) (fun _ _ _=>.bad 0) a b
def allR {α:Type} (l:List α) (f:α→R):R:=List.rec (motive:=fun _=>(α→R)→R) (fun _=>.ok) (fun a _ ih f=>andR (f a) (ih f)) l f
def nextOf (b mb since:Nat) (seen:List Nat) (clock:Nat) (left:List Ent) (m:Mem) (f:AV→Mem→R):R:=
 match left with
 |[]=>f (.tup [.bool false]) m
 |e::left=>ifB 0 ((e::left).all fun e=>Nat.ble (Nat.succ e.born) since) (allR (e::left) fun e=>putK m b (.iter (some mb) since (seen++[e.born]) clock) fun m=>f (.tup [.bool true,e.key,e.val]) m)
def nextK (it:AV) (isString:Bool) (m:Mem) (f:AV→Mem→R):R:=
 match it,isString with
 | .ptr b 0,false=>blkK m b fun y=>(match y with
   | .iter none _ _ _=>f (.tup [.bool false]) m
   | .iter (some mb) since seen last=>blkK m mb fun z=>(match z with
     | .map es clock=>ifB 0 (seen.isEmpty||es.isEmpty|| !(es.all fun e=>Nat.ble last e.born)) (nextOf b mb since seen clock (es.filter fun e=>!(seen.any fun s=>s==e.born)) m f)
     |_=>.bad 0)
   |_=>.bad 0)
 |_,_=>.bad 0
def rangeK (x:AV) (m:Mem) (f:AV→Mem→R):R:=
 match x with
 | .nilm=>newK m (.iter none 0 [] 0) fun b m=>f (.ptr b 0) m
 | .mp b=>blkK m b fun y=>(match y with| .map _ c=>newK m (.iter (some b) c [] c) fun b m=>f (.ptr b 0) m|_=>.bad 0)
 |_=>.bad 0
def entryK (it:AV) (m:Mem) (f:AV→Mem→R):R:=
 match it with
 | .ptr b 0=>blkK m b fun y=>(match y with
   | .iter (some mb) _ seen last=>blkK m mb fun z=>(match z with
     | .map es c=>ifB 0 (Nat.beq c last) (optK 0 seen.getLast? fun s=>optK 0 (es.find? fun e=>e.born==s) fun e=>f (.tup [e.key,e.val]) m)
     |_=>.bad 0)
   |_=>.bad 0)
 |_=>.bad 0
def assertK (g:G) (x:AV) (a:TypeId) (ok:Bool) (f:AV→R):R:=
 match g.desc a,x with
 | .interface _,_=>.bad 0
 | .invalid,_=>.bad 0
 |_,.nili=>ifB 0 ok (optK 0 (g.zero a) fun z=>f (.tup [z,.bool false]))
 |_,.ifc t v=>iteB (Nat.beq t a) (iteB ok (f (.tup [v,.bool true])) (f v)) (ifB 0 ok (optK 0 (g.zero a) fun z=>f (.tup [z,.bool false])))
 |_,_=>.bad 0
def ifaceOk (g:G) (t:TypeId):Bool:=match g.desc t with| .interface _=>false| .invalid=>false|_=>true
def makeMapK (g:G) (t:TypeId) (r:Option Operand) (fr:Fr) (m:Mem) (f:AV→Mem→R):R:=
 match r with
 |none=>newK m (.map [] 0) fun b m=>f (.mp b) m
 |some x=>ev x fr fun x=>(match g.desc t with| .map _ _=>asIntK x fun _=>newK m (.map [] 0) fun b m=>f (.mp b) m|_=>.bad 0)
def plainFn (fn:Fn):Bool:=match fn with| .yield _=>false|_=>true
def nilCheckFn (fn:Fn) (v:AV) (f:AV→R):R:=match fn with| .method _=>.bad 0|_=>f v
def nilCheckK (v:AV) (f:AV→R):R:=AV.rec (motive_1:=fun _=>AV→(AV→R)→R) (motive_2:=fun _=>Unit) (fun _ v f=>f v) (fun _ _ v f=>f v) (fun _ v f=>f v) (fun _ _ v f=>f v) (fun _ _=>R.bad 0) (fun _ _ _ _ v f=>f v) (fun v f=>f v) (fun _ v f=>f v) (fun v f=>f v) (fun fn _ _ _ _ v f=>nilCheckFn fn v f) (fun _ _=>R.bad 0) (fun _ _ _ v f=>f v) (fun _ _=>R.bad 0) (fun _ _ v f=>f v) (fun _ _ v f=>f v) (fun _ _ _ _ v f=>f v) () (fun _ _ _ _=>()) v v f
def callOp (call:CallF) (g:G) (c:Call) (args:List AV) (fr:Fr) (m:Mem) (f:AV→Mem→R):R:=
 Callee.rec (motive:=fun _=>CallF→G→Call→List AV→Fr→Mem→(AV→Mem→R)→R)
  (fun x call _ _ args fr m f=>ev x fr fun x=>resolveK x args fun t=>call t m f)
  (fun r name call g _ args fr m f=>ev r fr fun r=>methodK g r name args fun t=>call t m f)
  (fun b _ g c args _ m f=>builtinK g b c.argTypes.toList args m f) c.callee call g c args fr m f
def opK (o:Op) (g:G) (call:CallF) (fr:Fr) (m:Mem) (f:AV→Mem→R):R:=
 Op.rec (motive:=fun _=>G→CallF→Fr→Mem→(AV→Mem→R)→R) (fun x _ _ fr m f=>ev x fr fun v=>f v m) (fun x _ _ fr m f=>ev x fr fun v=>f v m) (fun c a b _ _ fr m f=>ev c fr fun c=>asBoolK c fun c=>ev (iteB c a b) fr fun v=>f v m) (fun e g _ _ m f=>optK 0 (g.zero e) fun z=>newK m (.cells z.cells e false 0) fun b m=>f (.ptr b 0) m) (fun e x _ _ fr m f=>ev x fr fun v=>newK m (.cells v.cells e false 0) fun b m=>f (.ptr b 0) m) (fun t ps g _ fr m f=>buildK g t fr ps.toList fun v=>f v m) (fun t n ps g _ fr m f=>buildSliceK g t n fr ps.toList m f) (fun t x k v g _ fr m f=>ev x fr fun x=>ev k fr fun k=>ev v fr fun v=>updateK g t x k v m fun m=>f .undef m) (fun t a g _ fr m f=>ev a fr fun a=>optK 0 (g.size t) fun s=>loadK (g.agg t) s m a fun v=>f v m) (fun t a x g _ fr m f=>ev a fr fun a=>ev x fr fun v=>optK 0 (g.size t) fun s=>storeK s m a v fun m=>f .undef m) (fun _ _ _ _ _ _=>R.bad 0) (fun _ _ _ _ _ _=>R.bad 0) (fun x _ _ fr m f=>ev x fr fun v=>nilCheckK v fun v=>f v m) (fun op t a b _ g _ fr m f=>ev a fr fun x=>ev b fr fun y=>binK op g t (litNil a b) m x y fun v=>f v m) (fun op _ x _ _ fr m f=>ev x fr fun x=>unK op x fun v=>f v m) (fun s d x g _ fr m f=>ev x fr fun x=>convK g s d x m f) (fun _ _ _ _ _ _ _=>R.bad 0) (fun t x g _ fr m f=>ev x fr fun x=>ifB 0 (ifaceOk g t) (f (.ifc t x) m)) (fun fn first cap _ _ fr m f=>ifB 0 (plainFn fn) (evs first.toList fr fun a=>evs cap.toList fr fun c=>f (.fn fn a c) m)) (fun t r g _ fr m f=>makeMapK g t r fr m f) (fun _ _ _ _ _ _ _=>R.bad 0) (fun t l c g _ fr m f=>ev l fr fun l=>ev c fr fun c=>makeSliceK g t l c m f) (fun t x lo hi mx g _ fr m f=>ifB 0 (Option.isNone mx) (ev x fr fun x=>evo lo fr fun lo=>evo hi fr fun hi=>sliceK g t x lo hi m f)) (fun t x i g _ fr m f=>ev x fr fun x=>fieldAddrK g t x i fun v=>f v m) (fun t x i g _ fr m f=>ev x fr fun x=>AV.rec (motive_1:=fun _=>G→TypeId→Nat→Mem→(AV→Mem→R)→R) (motive_2:=fun _=>Unit) (fun _ _ _ _ _ _=>R.bad 0) (fun _ _ _ _ _ _ _=>R.bad 0) (fun _ _ _ _ _ _=>R.bad 0) (fun _ _ _ _ _ _ _=>R.bad 0) (fun _ _ _ _ _=>R.bad 0) (fun _ _ _ _ _ _ _ _ _=>R.bad 0) (fun _ _ _ _ _=>R.bad 0) (fun _ _ _ _ _ _=>R.bad 0) (fun _ _ _ _ _=>R.bad 0) (fun _ _ _ _ _ _ _ _ _ _=>R.bad 0) (fun _ _ _ _ _=>R.bad 0) (fun _ _ _ _ _ _ _ _=>R.bad 0) (fun _ _ _ _ _=>R.bad 0) (fun cs _ g t i m f=>optK 0 (fieldOf g t i) fun fd=>partK g fd.type cs fd.offset fun v=>f v m) (fun _ _ _ _ _ _ _=>R.bad 0) (fun _ _ _ _ _ _ _ _ _=>R.bad 0) () (fun _ _ _ _=>()) x g t i m f) (fun t x i g _ fr m f=>ev x fr fun x=>ev i fr fun i=>indexAddrK g t x i fun v=>f v m) (fun t x i g _ fr m f=>ev x fr fun x=>ev i fr fun i=>indexK g t x i fun v=>f v m) (fun t x i ok g _ fr m f=>ev x fr fun x=>ev i fr fun i=>lookupK g t x i ok m fun v=>f v m) (fun t x k v g _ fr m f=>ev x fr fun x=>ev k fr fun k=>ev v fr fun v=>updateK g t x k v m fun m=>f .undef m) (fun _ _ _ _ _ _ _ _=>R.bad 0) (fun _ _ _ _ _ _ _ _ _=>R.bad 0) (fun t x g _ fr m f=>ev x fr fun x=>ifB 0 (isMap g t) (rangeK x m f)) (fun it s _ _ fr m f=>ev it fr fun it=>nextK it s m f) (fun it _ _ fr m f=>ev it fr fun it=>entryK it m f) (fun x _ a ok g _ fr m f=>ev x fr fun x=>assertK g x a ok fun v=>f v m) (fun t i _ _ fr m f=>ev t fr fun t=>AV.rec (motive_1:=fun _=>Nat→Mem→(AV→Mem→R)→R) (motive_2:=fun _=>Unit) (fun _ _ _ _=>R.bad 0) (fun _ _ _ _ _=>R.bad 0) (fun _ _ _ _=>R.bad 0) (fun _ _ _ _ _=>R.bad 0) (fun _ _ _=>R.bad 0) (fun _ _ _ _ _ _ _=>R.bad 0) (fun _ _ _=>R.bad 0) (fun _ _ _ _=>R.bad 0) (fun _ _ _=>R.bad 0) (fun _ _ _ _ _ _ _ _=>R.bad 0) (fun _ _ _=>R.bad 0) (fun _ _ _ _ _ _=>R.bad 0) (fun _ _ _=>R.bad 0) (fun _ _ _ _ _=>R.bad 0) (fun vs _ i m f=>nthK vs i fun v=>f v m) (fun _ _ _ _ _ _ _=>R.bad 0) () (fun _ _ _ _=>()) t i m f) (fun c g call fr m f=>evs c.args.toList fr fun args=>callOp call g c args fr m f) (fun _ _ _ _ _ _=>R.bad 0) (fun _ _ _ _ _ _=>R.bad 0) (fun _ _ _ _ _ _=>R.bad 0) (fun _ _ _ _ _ _ _=>R.bad 0) (fun _ _ _ _ _ _ _ _=>R.bad 0) (fun _ _ _ _ _ _ _=>R.bad 0) o g call fr m f
def putFr (fr:Fr) (d:Option Tmp) (v:AV) (f:Fr→R):R:=Option.rec (motive:=fun _=>Fr→AV→(Fr→R)→R) (fun fr _ f=>f fr) (fun d fr v f=>fr.setK d v f) d fr v f
def guardSlot (ops:Array Oper) (j:Nat):Option Nat:=(ops[j]?).bind (·.dst)
def isWanted (want:Bool) (c:AV):Bool:=match c with| .bool b=>iteB want b (Bool.not b)|_=>false
def operK (g:G) (call:CallF) (ops:Array Oper) (o:Oper) (fr:Fr) (m:Mem) (f:Fr→Mem→R):R:=
 Option.rec (motive:=fun _=>G→CallF→Array Oper→Oper→Fr→Mem→(Fr→Mem→R)→R)
  (fun g call _ o fr m f=>opK o.op g call fr m fun v m=>putFr fr o.dst v fun fr=>f fr m)
  (fun jw g call ops o fr m f=>optK 0 (guardSlot ops jw.1) fun d=>fr.getK d fun c=>
   iteB (isWanted jw.2 c) (opK o.op g call fr m fun v m=>putFr fr o.dst v fun fr=>f fr m) (putFr fr o.dst .undef fun fr=>f fr m))
  o.guard g call ops o fr m f
def opsK (g:G) (call:CallF) (ops:Array Oper) (l:List Oper) (fr:Fr) (m:Mem) (f:Fr→Mem→R):R:=
 List.rec (motive:=fun _=>G→CallF→Array Oper→Fr→Mem→(Fr→Mem→R)→R) (fun _ _ _ fr m f=>f fr m)
  (fun o _ ih g call ops fr m f=>operK g call ops o fr m fun fr m=>ih g call ops fr m f) l g call ops fr m f
abbrev RangeF:=AV→Mem→Fr→Array Tmp→Code→Code→(Option Code→Mem→R)→R
abbrev KX:=X→Fr→Mem→R
abbrev DrawF:=Nat→Array Oper→Fr→Mem→(Fr→Mem→R)→R
structure Ax where
 g:G
 fuel:Nat
 mask:Nat
 call:CallF
 range:RangeF
 draw:DrawF
def seqX (e:X) (fr:Fr) (m:Mem) (ihb:Ax→Fr→Mem→KX→R) (a:Ax) (k:KX):R:=
 X.rec (motive:=fun _=>Fr→Mem→(Ax→Fr→Mem→KX→R)→Ax→KX→R) (fun fr m ihb a k=>ihb a fr m k) (fun id fr m _ _ k=>k (.x id) fr m) (fun fr m _ _ k=>k .r fr m) e fr m ihb a k
def blockX (e:X) (id:Nat) (fr:Fr) (m:Mem) (k:KX):R:=
 X.rec (motive:=fun _=>Nat→Fr→Mem→KX→R) (fun _ fr m k=>k .n fr m) (fun j id fr m k=>iteB (Nat.beq j id) (k .n fr m) (k (.x j) fr m)) (fun _ fr m k=>k .r fr m) e id fr m k
def loopX (e:X) (again:Ax→Fr→Mem→KX→R) (a:Ax) (fr:Fr) (m:Mem) (k:KX):R:=
 X.rec (motive:=fun _=>(Ax→Fr→Mem→KX→R)→Ax→Fr→Mem→KX→R) (fun again a fr m k=>again a fr m k) (fun id _ _ fr m k=>k (.x id) fr m) (fun _ _ fr m k=>k .r fr m) e again a fr m k
def loopK (ih:Ax→Fr→Mem→KX→R) (fuel:Nat):Ax→Fr→Mem→KX→R:=
 Nat.rec (motive:=fun _=>Ax→Fr→Mem→KX→R) (fun _ _ _ _=>R.bad 0) (fun _ again a fr m k=>ih a fr m fun e fr m=>loopX e again a fr m k) fuel
def jumpX (j:Option Code) (fr:Fr) (m:Mem) (k:KX):R:=match j with
 |none=>k .n fr m
 |some .ret=>k .r fr m
 |some (.exit id)=>k (.x id) fr m
 |_=>.bad 0
def regionK (id:Nat) (ops:Array Oper) (d:Bool) (a:Ax) (fr:Fr) (m:Mem) (f:Fr→Mem→R):R:=
 Bool.rec (motive:=fun _=>R) (opsK a.g a.call ops ops.toList fr m f) (a.draw id ops fr m f) d
def exK (c:Code) (a:Ax) (fr:Fr) (m:Mem) (k:KX):R:=
 Code.rec (motive:=fun _=>Ax→Fr→Mem→KX→R) (fun _ fr m k=>k .n fr m) (fun id ops d a fr m k=>regionK id ops d a fr m fun fr m=>fr.flushK a.mask fun fr=>k .n fr m) (fun _ _ iha ihb a fr m k=>iha a fr m fun e fr m=>seqX e fr m ihb a k) (fun x _ _ iha ihb a fr m k=>ev x fr fun v=>asBoolK v fun b=>Bool.rec (motive:=fun _=>R) (ihb a fr m k) (iha a fr m k) b) (fun id _ ih a fr m k=>ih a fr m fun e fr m=>blockX e id fr m k) (fun _ ih a fr m k=>loopK ih a.fuel a fr m k) (fun x ps asg body _ _ a fr m k=>ev x fr fun v=>a.range v m fr ps asg body fun j m=>jumpX j fr m k) (fun id _ fr m k=>k (.x id) fr m) (fun _ ih a fr m k=>ih a fr m k) (fun _ _ fr m k=>k .n fr m) (fun _ _ _ _ _=>R.bad 0) (fun _ fr m k=>k .r fr m) (fun _ _ _ _ _=>R.bad 0) c a fr m k
def resOneK (g:G) (fr:Fr) (m:Mem) (r:ResultVar) (k:AV→R):R:=match r with
 | .tmp t=>fr.getK t k
 | .cell a t=>fr.getK a fun p=>optK 0 (g.size t) fun s=>loadK (g.agg t) s m p k
def resOf (l:List AV) (f:AV→R):R:=match l with
 |[v]=>f v
 |l=>f (.tup l)
def resK (g:G) (rs:List ResultVar) (fr:Fr) (m:Mem) (f:AV→R):R:=mapK (resOneK g fr m) rs fun l=>resOf l f
def argsK (args:List AV) (n:Nat) (l:Log) (f:Log→R):R:=
 List.rec (motive:=fun _=>Nat→Log→(Log→R)→R) (fun _ l f=>f l) (fun v _ ih n l f=>forceN (Nat.succ n) fun n'=>ih n' (.cons n v l) f) args n l f
def maskOf (ts:List Nat):Nat:=ts.foldl (fun m t=>Nat.lor m (Nat.shiftLeft 1 t)) 0
def tmpsOf (xs:List Operand):List Nat:=xs.filterMap fun| .tmp t=>some t|_=>none
def opsMask (all:Array Oper):List Oper→Nat→Nat
 |[],_=>0
 |o::l,defs=>
  let uses:=Nat.lor (maskOf (tmpsOf o.op.operands.toList)) (match o.guard with|some (j,_)=>maskOf (guardSlot all j).toList|none=>0)
  let rest:=opsMask all l (match o.dst with|some d=>Nat.lor defs (Nat.shiftLeft 1 d)|none=>defs)
  Nat.lor (Nat.xor uses (Nat.land uses defs)) rest
def codeMask:Code→Nat
 | .region _ ops _=>opsMask ops ops.toList 0
 | .seq a b=>Nat.lor (codeMask a) (codeMask b)
 | .cond x a b=>Nat.lor (maskOf (tmpsOf [x])) (Nat.lor (codeMask a) (codeMask b))
 | .block _ c| .loop c| .scope c=>codeMask c
 | .rangeFunc x _ a b=>Nat.lor (maskOf (tmpsOf [x])) (Nat.lor (codeMask a) (codeMask b))
 |_=>0
def funcMask (fn:Func):Nat:=Nat.lor (maskOf (fn.results.toList.map fun| .tmp t=>t| .cell a _=>a)) (match fn.body with|some c=>codeMask c|none=>0)
def indexByteK (c:Nat) (s:List UInt8) (m:Mem) (f:AV→Mem→R):R:=
 List.rec (motive:=fun _=>Nat→R) (fun _=>f (.int .i64 (-1)) m) (fun b _ ih i=>iteB (Nat.beq b.toNat c) (f (.int .i64 (Int.ofNat i)) m) (forceN (Nat.succ i) ih)) s 0
def extK (name origin:String) (args:List AV) (m:Mem) (f:AV→Mem→R):R:=
 if origin== "" then
  if name== "internal/abi.NoEscape" then(match args with|[x]=>f x m|_=>.bad 0)
  else if name== "internal/bytealg.IndexByteString" then(match args with
   |[.str s,.int .u8 c]=>natK c fun c=>ifB 0 (Nat.ble c 255) (indexByteK c s m f)
   |_=>.bad 0)
  else if name== "internal/bytealg.abigen_runtime_cmpstring" then(match args with
   |[.str a,.str b]=>iteB (strLt a b) (f (.int .i64 (-1)) m) (iteB (strLt b a) (f (.int .i64 1) m) (f (.int .i64 0) m))
   |_=>.bad 0)
  else .bad 0
 else .bad 0
def rangeEnd (l:Nat) (k:Option Code→Mem→R) (m:Mem) (y:Blk):R:=match y with
 | .loop st pend _ _ _ _ _ _=>ifB 0 (Bool.not (Nat.beq st 1)) (delBlkK m l fun m=>k pend m)
 |_=>.bad 0
def rangeTgt (g:G) (ih:CallF) (l:Nat) (m:Mem) (k:Option Code→Mem→R) (t:Tgt):R:=match t with
 | .fn f args=>g.ft.getK f fun fn=>ifB 0 fn.body.isSome (ih (.fn f args) m fun _ m=>blkK m l fun y=>rangeEnd l k m y)
 |_=>.bad 0
def rangeCallK (g:G) (ih:CallF) (mask:Nat) (self:FuncId):RangeF:=fun v m fr ps asg body k=>
 newK m (.loop 0 none fr mask self ps.toList asg body) fun l m=>resolveK v [.fn (.yield l) [] []] (rangeTgt g ih l m k)
def noRange:RangeF:=fun _ _ _ _ _ _ _=>.bad 0
def finK (l:Nat) (st:Nat) (pend:Option Code) (b:Bool) (m:Mem) (k:AV→Mem→R):R:=
 blkK m l fun y=>match y with
 | .loop _ _ fr n f ps asg body=>putK m l (.loop st pend fr n f ps asg body) fun m=>k (.bool b) m
 |_=>.bad 0
def runFn (g:G) (fuel:Nat) (draw:FuncId→DrawF) (ih:CallF) (f:FuncId) (fn:Func) (args:List AV) (m:Mem) (k:AV→Mem→R):R:=
 match fn.body with
 |some c=>forceN (funcMask fn) fun mask=>lenK args fun n=>ifB 0 (Nat.ble n fn.ntmps) (argsK args 0 .nil fun log=>
   exK c ⟨g,fuel,mask,ih,rangeCallK g ih mask f,draw f⟩ ⟨log,.nil 8,fn.ntmps,g.nglob⟩ m fun e fr m=>X.rec (motive:=fun _=>R) (resK g fn.results.toList fr m fun v=>k v m) (fun _=>.bad 0) (resK g fn.results.toList fr m fun v=>k v m) e)
 |none=>extK fn.name fn.origin args m k
def setAll (ps:List Tmp) (args:List AV) (fr:Fr) (f:Fr→R):R:=match ps,args with
 |[],[]=>f fr
 |p::ps,a::args=>fr.setK p a fun fr=>setAll ps args fr f
 |_,_=>.bad 0
def beganK (l:Nat) (m:Mem) (k:Mem→R):R:=
 blkK m l fun y=>match y with
 | .loop 0 p fr mask f ps asg body=>putK m l (.loop 1 p fr mask f ps asg body) k
 |_=>.bad 0
def runRound (g:G) (fuel:Nat) (draw:FuncId→DrawF) (ih:CallF) (l:Nat) (args:List AV) (m:Mem) (k:AV→Mem→R):R:=
 blkK m l fun y=>match y with
 | .loop _ _ fr mask f ps asg body=>setAll ps args fr fun fr'=>
   exK asg ⟨g,fuel,mask,ih,noRange,draw f⟩ fr' m fun e fr' m=>X.rec (motive:=fun _=>R)
    (beganK l m fun m=>exK body ⟨g,fuel,mask,ih,noRange,draw f⟩ fr' m fun e _ m=>
     X.rec (motive:=fun _=>R) (finK l 0 none true m k) (fun id=>finK l 2 (some (.exit id)) false m k) (finK l 2 (some .ret) false m k) e)
    (fun _=>.bad 0) (.bad 0) e
 |_=>.bad 0
def callK (g:G) (fuel:Nat) (draw:CallF→FuncId→DrawF) (depth:Nat):CallF:=
 Nat.rec (motive:=fun _=>CallF) (fun _ _ _=>.bad 0)
  (fun _ ih t m k=>Tgt.rec (motive:=fun _=>G→Nat→(CallF→FuncId→DrawF)→CallF→Mem→(AV→Mem→R)→R) (fun f args g fuel draw ih m k=>mark f (g.ft.getK f fun fn=>runFn g fuel (draw ih) ih f fn args m k)) (fun l args g fuel draw ih m k=>runRound g fuel (draw ih) ih l args m k) t g fuel draw ih m k) depth
def ofListK {α:Type} (l:List α) (n:Nat) (t:T α) (f:T α→R):R:=
 List.rec (motive:=fun _=>Nat→T α→(T α→R)→R) (fun _ t f=>f t) (fun a _ ih n t f=>t.setK n a fun t=>forceN (Nat.succ n) fun n=>ih n t f) l n t f
end
end Go.AM
end
section
namespace Go.AM
theorem forceN_eq (n:Nat) (f:Nat→R):forceN n f=f n:=by cases n<;>rfl
theorem forceI_eq (n:Int) (f:Int→R):forceI n f=f n:=by
 cases n with
 |ofNat m=>exact forceN_eq m fun m=>f (Int.ofNat m)
 |negSucc m=>exact forceN_eq m fun m=>f (Int.negSucc m)
theorem ifB_ok {tag:Nat} {b:Bool} {k:R} (h:ifB tag b k=.ok):b=true∧k=.ok:=by
 cases b
 ·cases h
 ·exact⟨rfl,h⟩
theorem iteB_eq {α:Type} (b:Bool) (x y:α):iteB b x y=if b=true then x else y:=by cases b<;>rfl
theorem optK_ok {α:Type} {tag:Nat} {o:Option α} {f:α→R} (h:optK tag o f=.ok):∃a,o=some a∧f a=.ok:=by
 cases o with
 |none=>cases h
 |some a=>exact⟨a,rfl,h⟩
theorem nat_rec_bit {α:Type} (x y:α) (n:Nat):(Nat.rec (motive:=fun _=>α) x (fun _ _=>y) n)=if n=0 then x else y:=by cases n<;>rfl
def T.find {α:Type}:T α→Nat→Nat→Option α
 | .nil _,_,_=>none
 | .leaf key a,_,k=>if key=k then some a else none
 | .node l r,p,k=>if Nat.mod p 2=0 then l.find (Nat.div p 2) k else r.find (Nat.div p 2) k
theorem T.get_eq {α:Type} (t:T α) (k:Nat):t.get k=t.find k k:=by
 have h:∀(t:T α) (p:Nat),(T.rec (motive:=fun _=>Nat→Option α) (fun _ _=>none) (fun key a _=>iteB (Nat.beq key k) (some a) none)
  (fun _ _ ihl ihr p=>Nat.rec (motive:=fun _=>Option α) (ihl (Nat.div p 2)) (fun _ _=>ihr (Nat.div p 2)) (Nat.mod p 2)) t p:Option α)=t.find p k:=by
  intro t
  induction t with
  |nil d=>intro p;rfl
  |leaf key a=>
   intro p
   show iteB (Nat.beq key k) (some a) none=if key=k then some a else none
   rw[iteB_eq]
   by_cases e:key=k
   ·simp[e]
   ·have:Nat.beq key k=false:=by cases h:Nat.beq key k with|false=>rfl|true=>exact absurd (Nat.eq_of_beq_eq_true h) e
    simp[e,this]
  |node l r ihl ihr=>
   intro p
   show(Nat.rec (motive:=fun _=>Option α) _ (fun _ _=>_) (Nat.mod p 2):Option α)=_
   rw[nat_rec_bit,ihl,ihr]
   rfl
 exact h t k
theorem T.getK_ok {α:Type} {t:T α} {k:Nat} {f:α→R} (h:t.getK k f=.ok):∃a,t.find k k=some a∧f a=.ok:=by
 suffices H:∀(t:T α) (p:Nat),(T.rec (motive:=fun _=>Nat→Nat→(α→R)→R) (fun _ _ _ _=>R.bad 0)
  (fun key a _ k f=>ifB 0 (Nat.beq key k) (f a))
  (fun _ _ ihl ihr p k f=>Nat.rec (motive:=fun _=>R) (ihl (Nat.div p 2) k f) (fun _ _=>ihr (Nat.div p 2) k f) (Nat.mod p 2)) t p k f:R)=.ok→∃a,t.find p k=some a∧f a=.ok from H t k h
 intro t
 induction t with
 |nil d=>intro p h;cases h
 |leaf key a=>
  intro p h
  obtain⟨h1,h2⟩:=ifB_ok h
  exact⟨a,by simp[T.find,Nat.eq_of_beq_eq_true h1],h2⟩
 |node l r ihl ihr=>
  intro p h
  have h':(Nat.rec (motive:=fun _=>R) _ (fun _ _=>_) (Nat.mod p 2):R)=.ok:=h
  rw[nat_rec_bit] at h'
  simp only[T.find]
  split at h'<;>rename_i e
  ·rw[if_pos e];exact ihl _ h'
  ·rw[if_neg e];exact ihr _ h'
def T.sub {α:Type} (t' t:T α) (k:Nat) (a:α):Prop:=∀k' x,t'.find k' k'=some x→(k'=k∧x=a)∨(k'≠k∧t.find k' k'=some x)
theorem T.singleK_ok {α:Type} {a:α} {key:Nat} (d:Nat):∀ {p:Nat} {f:T α→R},T.singleK a key d p f=.ok→∃t',f t'=.ok∧∀p' k' x,t'.find p' k'=some x→k'=key∧x=a:=by
 induction d with
 |zero=>
  intro p f h
  refine⟨_,h,fun p' k' x hx=>?_⟩
  simp only[T.find] at hx
  split at hx
  ·injection hx with hx;exact⟨by rename_i e;exact e.symm,hx.symm⟩
  ·cases hx
 |succ d ih=>
  intro p f h
  have h':(Nat.rec (motive:=fun _=>R) (T.singleK a key d (Nat.div p 2) fun t=>f (T.node t (T.nil d))) (fun _ _=>T.singleK a key d (Nat.div p 2) fun t=>f (T.node (T.nil d) t)) (Nat.mod p 2):R)=.ok:=h
  rw[nat_rec_bit] at h'
  split at h'
  ·obtain⟨t',h1,h2⟩:=ih h'
   refine⟨_,h1,fun p' k' x hx=>?_⟩
   simp only[T.find] at hx
   split at hx
   ·exact h2 _ _ _ hx
   ·cases hx
  ·obtain⟨t',h1,h2⟩:=ih h'
   refine⟨_,h1,fun p' k' x hx=>?_⟩
   simp only[T.find] at hx
   split at hx
   ·cases hx
   ·exact h2 _ _ _ hx
theorem T.setK_ok {α:Type} {t:T α} {k:Nat} {a:α} {f:T α→R} (h:t.setK k a f=.ok):∃t',f t'=.ok∧t'.sub t k a:=by
 suffices H:∀(t:T α) (p:Nat) (f:T α→R),(T.rec (motive:=fun _=>Nat→Nat→α→(T α→R)→R) (fun d p k a f=>T.singleK a k d p f)
  (fun _ _ _ k a f=>f (T.leaf k a))
  (fun l r ihl ihr p k a f=>Nat.rec (motive:=fun _=>R) (ihl (Nat.div p 2) k a fun l=>f (T.node l r)) (fun _ _=>ihr (Nat.div p 2) k a fun r=>f (T.node l r)) (Nat.mod p 2)) t p k a f:R)=.ok→
   ∃t',f t'=.ok∧∀p' k' x,(k'=k→p'=p)→t'.find p' k'=some x→(k'=k∧x=a)∨(k'≠k∧t.find p' k'=some x) by
  obtain⟨t',h1,h2⟩:=H t k f h
  exact⟨t',h1,fun k' x hx=>h2 k' k' x id hx⟩
 intro t
 induction t with
 |nil d=>
  intro p f h
  obtain⟨t',h1,h2⟩:=T.singleK_ok d h
  exact⟨t',h1,fun p' k' x _ hx=>.inl (h2 _ _ _ hx)⟩
 |leaf key b=>
  intro p f h
  refine⟨_,h,fun p' k' x _ hx=>?_⟩
  simp only[T.find] at hx
  split at hx
  ·injection hx with hx;exact .inl ⟨by rename_i e;exact e.symm,hx.symm⟩
  ·cases hx
 |node l r ihl ihr=>
  intro p f h
  have h':(Nat.rec (motive:=fun _=>R) _ (fun _ _=>_) (Nat.mod p 2):R)=.ok:=h
  rw[nat_rec_bit] at h'
  split at h'<;>rename_i e
  ·obtain⟨t',h1,h2⟩:=ihl _ _ h'
   refine⟨_,h1,fun p' k' x hk hx=>?_⟩
   simp only[T.find] at hx ⊢
   split at hx<;>rename_i e'
   ·rw[if_pos e']
    exact h2 _ _ _ (fun e=>by rw[hk e]) hx
   ·rw[if_neg e']
    exact .inr ⟨fun ek=>e' (by rw[hk ek];exact e),hx⟩
  ·obtain⟨t',h1,h2⟩:=ihr _ _ h'
   refine⟨_,h1,fun p' k' x hk hx=>?_⟩
   simp only[T.find] at hx ⊢
   split at hx<;>rename_i e'
   ·rw[if_pos e']
    exact .inr ⟨fun ek=>e (by rw[←hk ek];exact e'),hx⟩
   ·rw[if_neg e']
    exact h2 _ _ _ (fun e=>by rw[hk e]) hx
theorem T.delK_ok {α:Type} {t:T α} {k:Nat} {f:T α→R} (h:t.delK k f=.ok):∃t',f t'=.ok∧∀k' x,t'.find k' k'=some x→k'≠k∧t.find k' k'=some x:=by
 suffices H:∀(t:T α) (p:Nat) (f:T α→R),(T.rec (motive:=fun _=>Nat→(T α→R)→R) (fun d _ f=>f (T.nil d))
  (fun _ _ _ f=>f (T.nil 0))
  (fun l r ihl ihr p f=>Nat.rec (motive:=fun _=>R) (ihl (Nat.div p 2) fun l=>f (T.node l r)) (fun _ _=>ihr (Nat.div p 2) fun r=>f (T.node l r)) (Nat.mod p 2)) t p f:R)=.ok→
   ∃t',f t'=.ok∧∀p' k' x,(k'=k→p'=p)→t'.find p' k'=some x→k'≠k∧t.find p' k'=some x by
  obtain⟨t',h1,h2⟩:=H t k f h
  exact⟨t',h1,fun k' x hx=>h2 k' k' x id hx⟩
 intro t
 induction t with
 |nil d=>intro p f h;exact⟨_,h,fun p' k' x _ hx=>by simp[T.find] at hx⟩
 |leaf key b=>intro p f h;exact⟨_,h,fun p' k' x _ hx=>by simp[T.find] at hx⟩
 |node l r ihl ihr=>
  intro p f h
  have h':(Nat.rec (motive:=fun _=>R) _ (fun _ _=>_) (Nat.mod p 2):R)=.ok:=h
  rw[nat_rec_bit] at h'
  split at h'<;>rename_i e
  ·obtain⟨t',h1,h2⟩:=ihl _ _ h'
   refine⟨_,h1,fun p' k' x hk hx=>?_⟩
   simp only[T.find] at hx ⊢
   split at hx<;>rename_i e'
   ·rw[if_pos e'];exact h2 _ _ _ (fun e=>by rw[hk e]) hx
   ·rw[if_neg e'];exact⟨fun ek=>e' (by rw[hk ek];exact e),hx⟩
  ·obtain⟨t',h1,h2⟩:=ihr _ _ h'
   refine⟨_,h1,fun p' k' x hk hx=>?_⟩
   simp only[T.find] at hx ⊢
   split at hx<;>rename_i e'
   ·rw[if_pos e'];exact⟨fun ek=>e (by rw[←hk ek];exact e'),hx⟩
   ·rw[if_neg e'];exact h2 _ _ _ (fun e=>by rw[hk e]) hx
def Log.find:Log→Nat→Option AV
 | .nil,_=>none
 | .cons d v l,k=>if d=k then some v else l.find k
def Fr.find (fr:Fr) (k:Nat):Option AV:=(fr.log.find k).or (fr.t.find k k)
theorem Fr.getK_ok {fr:Fr} {k:Nat} {f:AV→R} (h:fr.getK k f=.ok):∃v,fr.find k=some v∧f v=.ok:=by
 obtain⟨log,t,n,ng⟩:=fr
 have h':(Log.rec (motive:=fun _=>T AV→Nat→(AV→R)→R) (fun t k f=>t.getK k f)
  (fun d v _ ih t k f=>Bool.rec (motive:=fun _=>R) (ih t k f) (f v) (Nat.beq d k)) log t k f:R)=.ok:=h
 clear h
 simp only[Fr.find]
 induction log with
 |nil=>obtain⟨a,h1,h2⟩:=T.getK_ok h';exact⟨a,by simp[Log.find,h1],h2⟩
 |cons d v l ih=>
  simp only[Log.find]
  have h'':(Bool.rec (motive:=fun _=>R) _ (f v) (Nat.beq d k):R)=.ok:=h'
  by_cases e:d=k
  ·have hb:Nat.beq d k=true:=by simp[e]
   rw[hb] at h''
   exact⟨v,by simp[e],h''⟩
  ·have hb:Nat.beq d k=false:=by cases h:Nat.beq d k with|false=>rfl|true=>exact absurd (Nat.eq_of_beq_eq_true h) e
   rw[hb] at h''
   rw[if_neg e]
   exact ih h''
structure Fr.less (fr' fr:Fr):Prop where
 n:fr'.n=fr.n
 ng:fr'.ng=fr.ng
 find:∀k x,fr'.find k=some x→fr.find k=some x
def Fr.masked (fr:Fr) (mask:Nat):Prop:=∀k x,fr.t.find k k=some x→Nat.land (Nat.shiftRight mask k) 1≠0
theorem Fr.flushK_ok {fr:Fr} {mask:Nat} {f:Fr→R} (hm:fr.masked mask) (h:fr.flushK mask f=.ok):∃fr',f fr'=.ok∧fr'.less fr∧fr'.masked mask:=by
 obtain⟨log,t,n,ng⟩:=fr
 suffices H:∀(log:Log) (f:T AV→R),(Log.rec (motive:=fun _=>T AV→Nat→(T AV→R)→R) (fun t _ f=>f t)
  (fun d v _ ih t mask f=>ih t mask fun t=>Nat.rec (motive:=fun _=>R) (f t) (fun _ _=>t.setK d v f) (Nat.land (Nat.shiftRight mask d) 1)) log t mask f:R)=.ok→
   ∃t',f t'=.ok∧∀k x,t'.find k k=some x→Nat.land (Nat.shiftRight mask k) 1≠0∧(Fr.mk log t n ng).find k=some x by
  obtain⟨t',h1,h2⟩:=H log _ h
  exact⟨_,h1,⟨rfl,rfl,fun k x hx=>(h2 k x (by simpa[Fr.find,Log.find] using hx)).2⟩,fun k x hx=>(h2 k x hx).1⟩
 intro log
 induction log with
 |nil=>intro f h;exact⟨_,h,fun k x hx=>⟨hm k x hx,by simpa[Fr.find,Log.find] using hx⟩⟩
 |cons d v l ih=>
  intro f h
  obtain⟨t',h1,h2⟩:=ih _ h
  have h1':(Nat.rec (motive:=fun _=>R) (f t') (fun _ _=>t'.setK d v f) (Nat.land (Nat.shiftRight mask d) 1):R)=.ok:=h1
  rw[nat_rec_bit] at h1'
  have step:∀k x,d≠k→(Fr.mk l t n ng).find k=some x→(Fr.mk (.cons d v l) t n ng).find k=some x:=fun k x hk hx=>by
   simp only[Fr.find,Log.find,if_neg hk] at hx ⊢
   exact hx
  split at h1'<;>rename_i e
  ·refine⟨t',h1',fun k x hx=>⟨(h2 k x hx).1,step k x (fun ek=>?_) (h2 k x hx).2⟩⟩
   exact(h2 k x hx).1 (ek▸e)
  ·obtain⟨t2,h3,h4⟩:=T.setK_ok h1'
   refine⟨t2,h3,fun k x hx=>?_⟩
   rcases h4 k x hx with⟨rfl,rfl⟩|⟨hk,hx'⟩
   ·exact⟨e,by simp[Fr.find,Log.find]⟩
   ·exact⟨(h2 k x hx').1,step k x (Ne.symm hk) (h2 k x hx').2⟩
theorem nthK_ok {α:Type} {l:List α}:∀ {n:Nat} {f:α→R},nthK l n f=.ok→∃a,l[n]? =some a∧f a=.ok:=by
 induction l with
 |nil=>intro n f h;cases h
 |cons a l ih=>
  intro n f h
  cases n with
  |zero=>exact⟨a,rfl,h⟩
  |succ n=>obtain⟨b,h1,h2⟩:=ih (n:=n) (f:=f) h;exact⟨b,by simpa using h1,h2⟩
theorem setNthK_ok {α:Type} {x:α} {l:List α}:∀ {n:Nat} {f:List α→R},setNthK l n x f=.ok→n<l.length∧f (l.set n x)=.ok:=by
 induction l with
 |nil=>intro n f h;cases h
 |cons a l ih=>
  intro n f h
  cases n with
  |zero=>exact⟨by simp,h⟩
  |succ n=>obtain⟨h1,h2⟩:=ih (n:=n) (f:=fun l=>f (a::l)) h;exact⟨by simpa using h1,by simpa using h2⟩
theorem takeK_ok {α:Type} {l:List α}:∀ {n:Nat} {f:List α→R},takeK l n f=.ok→n≤l.length∧f (l.take n)=.ok:=by
 induction l with
 |nil=>
  intro n f h
  cases n with
  |zero=>exact⟨Nat.le_refl _,h⟩
  |succ n=>cases h
 |cons a l ih=>
  intro n f h
  cases n with
  |zero=>exact⟨Nat.zero_le _,h⟩
  |succ n=>obtain⟨h1,h2⟩:=ih (n:=n) (f:=fun l=>f (a::l)) h;exact⟨by simpa using h1,by simpa using h2⟩
theorem dropK_ok {α:Type} {l:List α}:∀ {n:Nat} {f:List α→R},dropK l n f=.ok→n≤l.length∧f (l.drop n)=.ok:=by
 induction l with
 |nil=>
  intro n f h
  cases n with
  |zero=>exact⟨Nat.le_refl _,h⟩
  |succ n=>cases h
 |cons a l ih=>
  intro n f h
  cases n with
  |zero=>exact⟨Nat.zero_le _,h⟩
  |succ n=>obtain⟨h1,h2⟩:=ih (n:=n) (f:=f) h;exact⟨by simpa using h1,by simpa using h2⟩
theorem appK_eq {α:Type} {l r:List α}:∀ {f:List α→R},appK l r f=f (l++r):=by
 induction l with
 |nil=>intro f;rfl
 |cons a l ih=>intro f;exact ih (f:=fun l=>f (a::l))
def over {α:Type} (xs l:List α):List α:=xs++l.drop xs.length
theorem overK_ok {α:Type} {xs:List α}:∀ {l:List α} {f:List α→R},overK xs l f=.ok→xs.length≤l.length∧f (over xs l)=.ok:=by
 induction xs with
 |nil=>intro l f h;exact⟨Nat.zero_le _,h⟩
 |cons x xs ih=>
  intro l f h
  cases l with
  |nil=>cases h
  |cons a l=>
   obtain⟨h1,h2⟩:=ih (l:=l) (f:=fun l=>f (x::l)) h
   exact⟨by simpa using h1,by simpa[over] using h2⟩
def splice {α:Type} (l:List α) (n:Nat) (xs:List α):List α:=l.take n++over xs (l.drop n)
theorem spliceK_ok {α:Type} {xs:List α} {l:List α}:∀ {n:Nat} {f:List α→R},spliceK l n xs f=.ok→n+xs.length≤l.length∧f (splice l n xs)=.ok:=by
 induction l with
 |nil=>
  intro n f h
  cases n with
  |zero=>obtain⟨h1,h2⟩:=overK_ok (l:=[]) (f:=f) h;exact⟨by simpa using h1,by simpa[splice] using h2⟩
  |succ n=>cases h
 |cons a l ih=>
  intro n f h
  cases n with
  |zero=>obtain⟨h1,h2⟩:=overK_ok (l:=a::l) (f:=f) h;exact⟨by simpa using h1,by simpa[splice] using h2⟩
  |succ n=>
   obtain⟨h1,h2⟩:=ih (n:=n) (f:=fun l=>f (a::l)) h
   exact⟨by simp at h1 ⊢;omega,by simpa[splice] using h2⟩
theorem splice_length {α:Type} {l:List α} {n:Nat} {xs:List α} (h:n+xs.length≤l.length):(splice l n xs).length=l.length:=by
 simp[splice,over];omega
theorem splice_get {α:Type} {l:List α} {n:Nat} {xs:List α} (h:n+xs.length≤l.length) (i:Nat):
  (splice l n xs)[i]? =if n≤i∧i<n+xs.length then xs[i - n]? else l[i]? :=by
 simp only[splice,over]
 rw[List.getElem?_append]
 simp only[List.length_take]
 have hn:min n l.length=n:=by omega
 rw[hn]
 split<;>rename_i h1
 ·rw[if_neg (by omega),List.getElem?_take,if_pos h1]
 ·rw[List.getElem?_append]
  split<;>rename_i h2
  ·rw[if_pos (by omega)]
  ·rw[if_neg (by omega),List.getElem?_drop,List.getElem?_drop]
   congr 1
   omega
theorem lenK_eq {α:Type} (l:List α) (f:Nat→R):lenK l f=f l.length:=by
 suffices H:∀(l:List α) (n:Nat),(List.rec (motive:=fun _=>Nat→(Nat→R)→R) (fun n f=>f n) (fun _ _ ih n f=>forceN (Nat.succ n) fun n=>ih n f) l n f:R)=f (n+l.length) by
  exact(H l 0).trans (by rw[Nat.zero_add])
 intro l
 induction l with
 |nil=>intro n;rfl
 |cons a l ih=>
  intro n
  show forceN (Nat.succ n) _=_
  rw[forceN_eq,ih]
  congr 1
  simp;omega
theorem replK_eq {α:Type} (x:List α) (n:Nat):∀(f:List α→R),replK x n f=f (List.replicate n x).flatten:=by
 induction n with
 |zero=>intro f;rfl
 |succ n ih=>
  intro f
  show replK x n (fun l=>appK x l f)=_
  rw[ih,appK_eq]
  simp[List.replicate_succ]
structure Pl where
 blk:Nat
 delta:Nat
 ncap:Nat
 sz:Nat
abbrev Inj:=Nat→Option Pl
def Inj.le (i j:Inj):Prop:=∀b p,i b=some p→j b=some p
theorem Inj.le.refl (i:Inj):i.le i:=fun _ _ h=>h
theorem Inj.le.trans {i j k:Inj} (h:i.le j) (h':j.le k):i.le k:=fun b p hb=>h' b p (h b p hb)
def concFn (ι:Inj):Fn→Option Fn
 | .yield l=>(ι l).map fun p=>.yield p.blk
 |f=>some f
mutual
def conc (ι:Inj):AV→Option Value
 | .bool b=>some (.bool b)
 | .int k n=>some (.int k n)
 | .str s=>some (.string ⟨s.toArray⟩)
 | .ptr b o=>(ι b).map fun p=>.pointer (some ⟨p.blk,p.delta+o,none⟩)
 | .nilp=>some (.pointer none)
 | .sl b o n (some c)=>(ι b).map fun p=>.slice (some ⟨p.blk,p.delta+o,none⟩) n c
 | .sl b o n none=>(ι b).bind fun p=>if n+o / p.sz≤p.ncap then some (.slice (some ⟨p.blk,p.delta+o,none⟩) n (p.ncap - o / p.sz)) else none
 | .nils=>some (.slice none 0 0)
 | .mp b=>(ι b).map fun p=>.map (some p.blk)
 | .nilm=>some (.map none)
 | .fn f a c=>(concFn ι f).bind fun f=>(concL ι a).bind fun a=>(concL ι c).map fun c=>.func f a.toArray c.toArray
 | .nilf=>some .nilFunc
 | .ifc t v=>(conc ι v).map (.iface t)
 | .nili=>some .nilIface
 | .agg cs=>(concL ι cs).map fun l=>.agg l.toArray
 | .tup vs=>(concL ι vs).map fun l=>.tuple l.toArray
 | .dead b o l d=>(ι b).map fun p=>.slice (some (if p.ncap - o / p.sz=l then⟨p.blk,p.delta+o,none⟩ else⟨p.blk,p.delta+(o+d),none⟩)) 0 (p.ncap - o / p.sz - l)
def concL (ι:Inj):List AV→Option (List Value)
 |[]=>some []
 |v::vs=>(conc ι v).bind fun a=>(concL ι vs).map fun l=>a::l
end
theorem concFn_mono {ι ι':Inj} (h:ι.le ι') {f:Fn} {g:Fn} (hc:concFn ι f=some g):concFn ι' f=some g:=by
 cases f<;>simp only[concFn] at hc ⊢ <;>try exact hc
 rw[Option.map_eq_some_iff] at hc ⊢
 obtain⟨p,hp,e⟩:=hc
 exact⟨p,h _ _ hp,e⟩
mutual
theorem conc_mono {ι ι':Inj} (h:ι.le ι'):∀ {v:AV} {V:Value},conc ι v=some V→conc ι' v=some V
 | .bool _,V,hc| .int _ _,V,hc| .str _,V,hc| .nilp,V,hc| .nils,V,hc| .nilm,V,hc| .nilf,V,hc| .nili,V,hc=>hc
 | .ptr b o,V,hc| .sl b o n (some c),V,hc| .mp b,V,hc| .dead b o _ _,V,hc=>by
  simp only[conc,Option.map_eq_some_iff] at hc ⊢
  obtain⟨p,hp,e⟩:=hc
  exact⟨p,h _ _ hp,e⟩
 | .sl b o n none,V,hc=>by
  simp only[conc,Option.bind_eq_some_iff] at hc ⊢
  obtain⟨p,hp,e⟩:=hc
  exact⟨p,h _ _ hp,e⟩
 | .fn f a c,V,hc=>by
  simp only[conc,Option.bind_eq_some_iff,Option.map_eq_some_iff] at hc ⊢
  obtain⟨f',hf,a',ha,c',hc,e⟩:=hc
  exact⟨f',concFn_mono h hf,a',concL_mono h ha,c',concL_mono h hc,e⟩
 | .ifc t v,V,hc=>by
  simp only[conc,Option.map_eq_some_iff] at hc ⊢
  obtain⟨p,hp,e⟩:=hc
  exact⟨p,conc_mono h hp,e⟩
 | .agg cs,V,hc| .tup cs,V,hc=>by
  simp only[conc,Option.map_eq_some_iff] at hc ⊢
  obtain⟨p,hp,e⟩:=hc
  exact⟨p,concL_mono h hp,e⟩
theorem concL_mono {ι ι':Inj} (h:ι.le ι'):∀ {l:List AV} {L:List Value},concL ι l=some L→concL ι' l=some L
 |[],L,hc=>hc
 |v::vs,L,hc=>by
  simp only[concL,Option.bind_eq_some_iff,Option.map_eq_some_iff] at hc ⊢
  obtain⟨a,ha,l,hl,e⟩:=hc
  exact⟨a,conc_mono h ha,l,concL_mono h hl,e⟩
end
theorem concL_length {ι:Inj}:∀ {l:List AV} {L:List Value},concL ι l=some L→L.length=l.length
 |[],L,h=>by simp[concL] at h;simp[h]
 |v::vs,L,h=>by
  simp only[concL,Option.bind_eq_some_iff,Option.map_eq_some_iff] at h
  obtain⟨a,_,l,hl,rfl⟩:=h
  simp[concL_length hl]
theorem concL_get {ι:Inj}:∀ {l:List AV} {L:List Value},concL ι l=some L→∀ {i:Nat} {v:AV},l[i]? =some v→∃V,conc ι v=some V∧L[i]? =some V
 |[],L,h,i,v,hv=>by simp at hv
 |a::vs,L,h,i,v,hv=>by
  simp only[concL,Option.bind_eq_some_iff,Option.map_eq_some_iff] at h
  obtain⟨A,ha,l,hl,rfl⟩:=h
  cases i with
  |zero=>simp at hv;subst hv;exact⟨A,ha,by simp⟩
  |succ i=>simpa using concL_get hl (by simpa using hv)
theorem concL_of {ι:Inj}:∀ {l:List AV} {L:List Value},l.length=L.length→(∀(i:Nat) (v:AV),l[i]? =some v→∃V,conc ι v=some V∧L[i]? =some V)→concL ι l=some L
 |[],L,h,_=>by
  have:L=[]:=List.length_eq_zero_iff.1 (by simpa using h.symm)
  simp[concL,this]
 |a::vs,[],h,_=>by simp at h
 |a::vs,A::L,h,hg=>by
  obtain⟨V,h1,h2⟩:=hg 0 a (by simp)
  have hl:=concL_of (l:=vs) (L:=L) (by simpa using h) fun i v hv=>by
   obtain⟨W,h3,h4⟩:=hg (i+1) v (by simpa using hv)
   exact⟨W,h3,by simpa using h4⟩
  simp at h2
  subst h2
  simp[concL,h1,hl]
theorem concL_append {ι:Inj}:∀ {l r:List AV} {L R:List Value},concL ι l=some L→concL ι r=some R→concL ι (l++r)=some (L++R)
 |[],r,L,R,h,h'=>by simp[concL] at h;subst h;simpa using h'
 |a::vs,r,L,R,h,h'=>by
  simp only[concL,Option.bind_eq_some_iff,Option.map_eq_some_iff] at h
  obtain⟨A,ha,l,hl,rfl⟩:=h
  simp only[List.cons_append,concL,Option.bind_eq_some_iff,Option.map_eq_some_iff]
  exact⟨A,ha,_,concL_append hl h',rfl⟩
theorem concL_take {ι:Inj} {l:List AV} {L:List Value} (h:concL ι l=some L) (n:Nat):concL ι (l.take n)=some (L.take n):=by
 refine concL_of (by simp[concL_length h]) fun i v hv=>?_
 rw[List.getElem?_take] at hv
 split at hv
 ·obtain⟨V,h1,h2⟩:=concL_get h hv
  exact⟨V,h1,by rw[List.getElem?_take,if_pos ‹_›];exact h2⟩
 ·cases hv
theorem concL_drop {ι:Inj} {l:List AV} {L:List Value} (h:concL ι l=some L) (n:Nat):concL ι (l.drop n)=some (L.drop n):=by
 refine concL_of (by simp[concL_length h]) fun i v hv=>?_
 rw[List.getElem?_drop] at hv
 obtain⟨V,h1,h2⟩:=concL_get h hv
 exact⟨V,h1,by rw[List.getElem?_drop];exact h2⟩
theorem conc_cells {ι:Inj} {v:AV} {V:Value} (h:conc ι v=some V):concL ι v.cells=some V.cells.toList:=by
 cases v with
 |agg cs=>
  simp only[conc,Option.map_eq_some_iff] at h
  obtain⟨l,hl,rfl⟩:=h
  simpa[AV.cells,Value.cells] using hl
 |sl b o n c=>
  have hV:V.cells= #[V]:=by
   cases c with
   |some c=>simp only[conc,Option.map_eq_some_iff] at h;obtain⟨_,_,rfl⟩:=h;rfl
   |none=>
    simp only[conc,Option.bind_eq_some_iff] at h
    obtain⟨_,_,h⟩:=h
    split at h
    ·injection h with h;subst h;rfl
    ·cases h
  simp[AV.cells,concL,h,hV]
 |fn f a c=>
  have hV:V.cells= #[V]:=by
   simp only[conc,Option.map_eq_some_iff,Option.bind_eq_some_iff] at h
   obtain⟨_,_,_,_,_,_,rfl⟩:=h;rfl
  simp[AV.cells,concL,h,hV]
 |ptr b o|mp b|ifc t v|tup vs|dead b o l d=>
  have hV:V.cells= #[V]:=by
   simp only[conc,Option.map_eq_some_iff] at h
   obtain⟨_,_,rfl⟩:=h;rfl
  simp[AV.cells,concL,h,hV]
 |_=>
  have hV:V.cells= #[V]:=by
   simp only[conc,Option.some.injEq] at h
   subst h;rfl
  simp[AV.cells,concL,h,hV]
end Go.AM
end
section
namespace Go.AM
def Blk.writable:Blk→Bool
 | .cells _ _ _ 3=>false
 |_=>true
def markOk (z size known:Nat) (fz:Nat×Nat):Prop:=
 (z=0→fz=(0,0))∧(z=1→fz=(0,0)∨fz=(size,size+1))∧(z=2→fz.2≤known)
def stOf:LoopState→Nat
 | .ready=>0
 | .busy=>1
 | .done=>2
 | .exhausted=>3
structure FrRel (P:Program) (ι:Inj) (fr:Fr) (mask:Nat) (tmps:Array Value):Prop where
 size:tmps.size=fr.n
 ng:fr.ng≤P.globals.size
 masked:fr.masked mask
 val:∀k x,fr.find k=some x→∃V,conc ι x=some V∧tmps[k]? =some V
theorem FrRel.mono {P:Program} {ι ι':Inj} (h:ι.le ι') {fr:Fr} {mask:Nat} {tmps:Array Value} (hr:FrRel P ι fr mask tmps):FrRel P ι' fr mask tmps:=
 ⟨hr.size,hr.ng,hr.masked,fun k x hx=>let⟨V,h1,h2⟩:=hr.val k x hx;⟨V,conc_mono h h1,h2⟩⟩
def EntRel (ι:Inj) (e:Ent) (E:MapEntry):Prop:=conc ι e.key=some E.key∧conc ι e.val=some E.val∧e.born=E.born
def EntsRel (ι:Inj):List Ent→List MapEntry→Prop
 |[],[]=>True
 |e::es,E::Es=>EntRel ι e E∧EntsRel ι es Es
 |_,_=>False
theorem EntsRel.mono {ι ι':Inj} (h:ι.le ι'):∀ {es:List Ent} {Es:List MapEntry},EntsRel ι es Es→EntsRel ι' es Es
 |[],[],_=>trivial
 |[],_::_,hr=>hr.elim
 |_::_,[],hr=>hr.elim
 |_::_,_::_,hr=>⟨⟨conc_mono h hr.1.1,conc_mono h hr.1.2.1,hr.1.2.2⟩,hr.2.mono h⟩
def drawsOf:Code→List (Nat×Array Oper)
 | .region id ops true=>[(id,ops)]
 | .seq a b| .cond _ a b| .rangeFunc _ _ a b=>drawsOf a++drawsOf b
 | .block _ c| .loop c| .scope c=>drawsOf c
 |_=>[]
def DrawsIn (P:Program) (f:FuncId) (c:Code):Prop:=∀r∈drawsOf c,∃fn b,P.funcs[f]? =some fn∧fn.body=some b∧r∈drawsOf b
theorem DrawsIn.left {P:Program} {f:FuncId} {a b:Code} {l:List (Nat×Array Oper)} (h:∀r∈l,∃fn b,P.funcs[f]? =some fn∧fn.body=some b∧r∈drawsOf b) (e:l=drawsOf a++drawsOf b):DrawsIn P f a∧DrawsIn P f b:=
 ⟨fun r hr=>h r (by rw[e];exact List.mem_append_left _ hr),fun r hr=>h r (by rw[e];exact List.mem_append_right _ hr)⟩
def BlkRel (P:Program) (ι:Inj) (p:Pl) (x:Blk) (w:World):Prop:=
 match x with
 | .cells c e g z=>∃(C:Array Value) (e':TypeId) (fz:Nat×Nat) (L:List Value),w.heap[p.blk]? =some (.cells C e' fz)∧concL ι c=some L∧
   (∀i,i<L.length→C[p.delta+i]? =L[i]?)∧(g=true→p.sz=P.cellsOf e∧1≤p.sz)∧
   (z≠3→e'=e∧(g=false→p.delta=0∧C.size=c.length)∧(g=true→C.size=p.delta+p.ncap*p.sz)∧markOk z C.size (p.delta+c.length) fz)
 | .map es clock=>∃E:Array MapEntry,w.heap[p.blk]? =some (.map E clock)∧EntsRel ι es E.toList∧p.delta=0
 | .iter mb since seen stepped=>p.delta=0∧∃m':Option Nat,w.heap[p.blk]? =some (.mapIter m' since seen.toArray stepped)∧
   (match mb with|none=>m'=none|some b=>∃q,ι b=some q∧m'=some q.blk)
 | .loop st pend fr mask self params assign body=>p.delta=0∧(DrawsIn P self assign∧DrawsIn P self body)∧∃L:Loop,w.heap[p.blk]? =some (.loop L)∧stOf L.state=st∧L.pending=pend∧L.params=params.toArray∧L.assign=assign∧L.body=body∧
   FrRel P ι fr mask L.tmps
theorem BlkRel.mono {P:Program} {ι ι':Inj} (h:ι.le ι') {p:Pl} {x:Blk} {w:World} (hr:BlkRel P ι p x w):BlkRel P ι' p x w:=by
 cases x with
 |cells c e g z=>
  obtain⟨C,e',fz,L,h1,h2,h3,h4,h5⟩:=hr
  exact⟨C,e',fz,L,h1,concL_mono h h2,h3,h4,h5⟩
 |map es clock=>
  obtain⟨E,h1,h2,h3⟩:=hr
  exact⟨E,h1,h2.mono h,h3⟩
 |iter mb since seen stepped=>
  obtain⟨h0,m',h1,h2⟩:=hr
  refine⟨h0,m',h1,?_⟩
  cases mb with
  |none=>exact h2
  |some b=>obtain⟨q,hq,e⟩:=h2;exact⟨q,h _ _ hq,e⟩
 |loop st pend fr mask fn params assign body=>
  obtain⟨h0,hd,L,h1,h2,h3,h5,h6,h7,h8⟩:=hr
  exact⟨h0,hd,L,h1,h2,h3,h5,h6,h7,h8.mono h⟩
theorem BlkRel.at {P:Program} {ι:Inj} {p:Pl} {x:Blk} {w w':World} (he:w'.heap[p.blk]? =w.heap[p.blk]?) (hr:BlkRel P ι p x w):BlkRel P ι p x w':=by
 cases x<;>simp only[BlkRel,he] at hr ⊢ <;>exact hr
structure Rel (P:Program) (ι:Inj) (m:Mem) (w:World):Prop where
 fresh:∀b,m.next≤b→ι b=none
 low:∀g,g<P.globals.size→∃p,ι g=some p∧p.blk=g∧p.delta=0
 blk:∀b x,m.t.find b b=some x→∃p,ι b=some p∧BlkRel P ι p x w
 apart:∀b c x y p q,m.t.find b b=some x→m.t.find c c=some y→ι b=some p→ι c=some q→p.blk=q.blk→x.writable=true→b=c
def wr (ι:Inj) (m:Mem) (k:Nat):Prop:=∃b x p,m.t.find b b=some x∧x.writable=true∧ι b=some p∧p.blk=k
def occ (ι:Inj) (m:Mem) (k:Nat):Prop:=∃b x p,m.t.find b b=some x∧ι b=some p∧p.blk=k
structure Step (P:Program) (ι:Inj) (m:Mem) (w:World) (ι':Inj) (m':Mem) (w':World):Prop where
 le:ι.le ι'
 rel:Rel P ι' m' w'
 size:w.heap.size≤w'.heap.size
 old:∀k,k<w.heap.size→¬wr ι m k→w'.heap[k]? =w.heap[k]?
 wrs:∀k,k<w.heap.size→wr ι' m' k→wr ι m k
 os:w'.os=w.os
 tape:w'.tape=w.tape
 output:w'.output=w.output
 next:m.next≤m'.next
 names:∀b,b<m.next→ι b=none→ι' b=none
 occs:∀k,k<w.heap.size→occ ι' m' k→occ ι m k
theorem Step.refl {P:Program} {ι:Inj} {m:Mem} {w:World} (h:Rel P ι m w):Step P ι m w ι m w:=
 ⟨.refl _,h,Nat.le_refl _,fun _ _ _=>rfl,fun _ _ h=>h,rfl,rfl,rfl,Nat.le_refl _,fun _ _ h=>h,fun _ _ h=>h⟩
theorem Step.trans {P:Program} {ι ι' ι'':Inj} {m m' m'':Mem} {w w' w'':World} (h:Step P ι m w ι' m' w') (k:Step P ι' m' w' ι'' m'' w''):Step P ι m w ι'' m'' w'':=
 ⟨h.le.trans k.le,k.rel,Nat.le_trans h.size k.size,
  fun i hi hn=>(k.old i (Nat.lt_of_lt_of_le hi h.size) fun hw=>hn (h.wrs i hi hw)).trans (h.old i hi hn),
  fun i hi hw=>h.wrs i hi (k.wrs i (Nat.lt_of_lt_of_le hi h.size) hw),k.os.trans h.os,k.tape.trans h.tape,k.output.trans h.output,
  Nat.le_trans h.next k.next,fun b hb hn=>k.names b (Nat.lt_of_lt_of_le hb h.next) (h.names b hb hn),fun i hi ho=>h.occs i hi (k.occs i (Nat.lt_of_lt_of_le hi h.size) ho)⟩
theorem Rel.heap {P:Program} {ι:Inj} {m:Mem} {w w':World} (he:w'.heap=w.heap) (h:Rel P ι m w):Rel P ι m w':=
 ⟨h.fresh,h.low,fun b x hx=>let⟨p,h1,h2⟩:=h.blk b x hx;⟨p,h1,h2.at (by rw[he])⟩,h.apart⟩
theorem Step.drew {P:Program} {ι:Inj} {m:Mem} {w:World} (h:Rel P ι m w) (n:Nat):Step P ι m w ι m {w with drawn:=n}:=
 ⟨.refl _,Rel.heap (w:=w) rfl h,Nat.le_refl _,fun _ _ _=>rfl,fun _ _ h=>h,rfl,rfl,rfl,Nat.le_refl _,fun _ _ h=>h,fun _ _ h=>h⟩
theorem blk_lt {P:Program} {ι:Inj} {p:Pl} {x:Blk} {w:World} (h:BlkRel P ι p x w):p.blk<w.heap.size:=by
 have:(w.heap[p.blk]?).isSome:=by
  cases x with
  |cells c e g z=>obtain⟨C,e',fz,L,h1,_⟩:=h;simp[h1]
  |map es clock=>obtain⟨E,h1,_⟩:=h;simp[h1]
  |iter mb since seen stepped=>obtain⟨_,m',h1,_⟩:=h;simp[h1]
  |loop st pend fr mask fn params assign body=>obtain⟨_,_,L,h1,_⟩:=h;simp[h1]
 rcases Nat.lt_or_ge p.blk w.heap.size with h'|h'
 ·exact h'
 ·simp[Array.getElem?_eq_none h'] at this
def Inj.set (ι:Inj) (b:Nat) (p:Pl):Inj:=fun c=>if c=b then some p else ι c
theorem Inj.le_set {ι:Inj} {b:Nat} {p:Pl} (h:ι b=none):ι.le (ι.set b p):=fun c q hq=>by
 simp only[Inj.set]
 split
 ·rename_i e;rw[e,h] at hq;cases hq
 ·exact hq
theorem Step.new {P:Program} {ι:Inj} {m:Mem} {w w':World} (h:Rel P ι m w) {t':T Blk} {x:Blk} (ht:t'.sub m.t m.next x) {p:Pl} (hp:p.blk=w.heap.size) {o:Obj}
  (hw:w'.heap=w.heap.push o) (hos:w'.os=w.os) (htp:w'.tape=w.tape) (hout:w'.output=w.output) (hx:BlkRel P (ι.set m.next p) p x w'):
  Step P ι m w (ι.set m.next p) ⟨m.next+1,t'⟩ w':=by
 have hle:ι.le (ι.set m.next p):=Inj.le_set (h.fresh _ (Nat.le_refl _))
 have hkeep:∀k,k<w.heap.size→w'.heap[k]? =w.heap[k]? :=fun k hk=>by rw[hw,Array.getElem?_push,if_neg (by omega)]
 have hne:∀b x,m.t.find b b=some x→b≠m.next:=fun b x hx e=>by
  obtain⟨q,h1,_⟩:=h.blk b x hx
  rw[e,h.fresh _ (Nat.le_refl _)] at h1;cases h1
 have hb:∀b x,m.t.find b b=some x→∀q,(ι.set m.next p) b=some q→ι b=some q:=fun b x hx q hq=>by
  simp only[Inj.set,if_neg (hne b x hx)] at hq;exact hq
 have hself:(ι.set m.next p) m.next=some p:=by simp[Inj.set]
 refine⟨hle,⟨fun b hb'=>?_,fun g hg=>let⟨q,h1,h2⟩:=h.low g hg;⟨q,hle _ _ h1,h2⟩,fun b y hy=>?_,fun b c y z q r hy hz hq hr he hwr=>?_⟩,by rw[hw];simp,fun k hk _=>hkeep k hk,?_,hos,htp,hout,Nat.le_succ _,?_,?_⟩
 ·simp only[Inj.set]
  rw[if_neg (by simp at hb';omega)]
  exact h.fresh b (by simp at hb';omega)
 ·rcases ht b y hy with⟨rfl,rfl⟩|⟨_,hy'⟩
  ·exact⟨p,hself,hx⟩
  ·obtain⟨q,h1,h2⟩:=h.blk b y hy'
   exact⟨q,hle _ _ h1,(h2.mono hle).at (hkeep _ (blk_lt h2))⟩
 ·rcases ht b y hy with⟨rfl,rfl⟩|⟨hb1,hy'⟩<;>rcases ht c z hz with⟨rfl,rfl⟩|⟨hc1,hz'⟩
  ·rfl
  ·rw[hself] at hq;injection hq with hq;subst hq
   obtain⟨r',h1,h2⟩:=h.blk c z hz'
   have:=hb c z hz' r hr
   rw[h1] at this;injection this with this;subst this
   have:=blk_lt h2
   omega
  ·rw[hself] at hr;injection hr with hr;subst hr
   obtain⟨r',h1,h2⟩:=h.blk b y hy'
   have:=hb b y hy' q hq
   rw[h1] at this;injection this with this;subst this
   have:=blk_lt h2
   omega
  ·exact h.apart b c y z q r hy' hz' (hb b y hy' q hq) (hb c z hz' r hr) he hwr
 ·rintro k hk ⟨b,y,q,hy,hwr,hq,e⟩
  rcases ht b y hy with⟨rfl,rfl⟩|⟨hb1,hy'⟩
  ·rw[hself] at hq;injection hq with hq;subst hq;omega
  ·exact⟨b,y,q,hy',hwr,hb b y hy' q hq,e⟩
 ·intro b hb' hn'
  simp only[Inj.set]
  rw[if_neg (by omega)];exact hn'
 ·rintro k hk ⟨b,y,q,hy,hq,e⟩
  rcases ht b y hy with⟨rfl,rfl⟩|⟨hb1,hy'⟩
  ·rw[hself] at hq;injection hq with hq;subst hq;omega
  ·exact⟨b,y,q,hy',hb b y hy' q hq,e⟩
theorem Step.put {P:Program} {ι:Inj} {m:Mem} {w w':World} (h:Rel P ι m w) {t':T Blk} {b:Nat} {x x':Blk} {p:Pl} (hb:m.t.find b b=some x) (hwx:x.writable=true) (hp:ι b=some p)
  (ht:t'.sub m.t b x') (hs:w'.heap.size=w.heap.size) (hw:∀k,k≠p.blk→w'.heap[k]? =w.heap[k]?) (hos:w'.os=w.os) (htp:w'.tape=w.tape) (hout:w'.output=w.output) (hx:BlkRel P ι p x' w'):
  Step P ι m w ι ⟨m.next,t'⟩ w':=by
 have hother:∀c y,m.t.find c c=some y→c≠b→∀q,ι c=some q→q.blk≠p.blk:=fun c y hy hc q hq e=>hc (h.apart b c x y p q hb hy hp hq e.symm hwx).symm
 refine⟨.refl _,⟨h.fresh,h.low,fun c y hy=>?_,fun c d y z q r hy hz hq hr he hwr=>?_⟩,by omega,fun k hk hn=>hw k fun e=>hn ⟨b,x,p,hb,hwx,hp,e.symm⟩,?_,hos,htp,hout,Nat.le_refl _,fun _ _ h=>h,?_⟩
 ·rcases ht c y hy with⟨rfl,rfl⟩|⟨hc,hy'⟩
  ·exact⟨p,hp,hx⟩
  ·obtain⟨q,h1,h2⟩:=h.blk c y hy'
   exact⟨q,h1,h2.at (hw _ (hother c y hy' hc q h1))⟩
 ·rcases ht c y hy with⟨rfl,rfl⟩|⟨hc,hy'⟩<;>rcases ht d z hz with⟨rfl,rfl⟩|⟨hd,hz'⟩
  ·rfl
  ·rw[hp] at hq;injection hq with hq;subst hq
   exact absurd he.symm (hother d z hz' hd r hr)
  ·rw[hp] at hr;injection hr with hr;subst hr
   exact absurd he (hother c y hy' hc q hq)
  ·exact h.apart c d y z q r hy' hz' hq hr he hwr
 ·rintro k hk ⟨c,y,q,hy,hwr,hq,e⟩
  rcases ht c y hy with⟨rfl,rfl⟩|⟨hc,hy'⟩
  ·rw[hp] at hq;injection hq with hq;subst hq
   exact⟨_,x,p,hb,hwx,hp,e⟩
  ·exact⟨c,y,q,hy',hwr,hq,e⟩
 ·rintro k hk ⟨c,y,q,hy,hq,e⟩
  rcases ht c y hy with⟨rfl,rfl⟩|⟨hc,hy'⟩
  ·rw[hp] at hq;injection hq with hq;subst hq
   exact⟨_,x,p,hb,hp,e⟩
  ·exact⟨c,y,q,hy',hq,e⟩
theorem Step.drop {P:Program} {ι:Inj} {m:Mem} {w w':World} (h:Rel P ι m w) {t':T Blk} {b:Nat} {x:Blk} {p:Pl} (hb:m.t.find b b=some x) (hwx:x.writable=true) (hp:ι b=some p)
  (ht:∀c y,t'.find c c=some y→c≠b∧m.t.find c c=some y) (hs:w'.heap.size=w.heap.size) (hw:∀k,k≠p.blk→w'.heap[k]? =w.heap[k]?) (hos:w'.os=w.os) (htp:w'.tape=w.tape) (hout:w'.output=w.output):
  Step P ι m w ι ⟨m.next,t'⟩ w':=by
 have hother:∀c y,m.t.find c c=some y→c≠b→∀q,ι c=some q→q.blk≠p.blk:=fun c y hy hc q hq e=>hc (h.apart b c x y p q hb hy hp hq e.symm hwx).symm
 refine⟨.refl _,⟨h.fresh,h.low,fun c y hy=>?_,fun c d y z q r hy hz=>h.apart c d y z q r (ht c y hy).2 (ht d z hz).2⟩,by omega,fun k hk hn=>hw k fun e=>hn ⟨b,x,p,hb,hwx,hp,e.symm⟩,
  fun k _ ⟨c,y,q,hy,r⟩=>⟨c,y,q,(ht c y hy).2,r⟩,hos,htp,hout,Nat.le_refl _,fun _ _ h=>h,fun k _ ⟨c,y,q,hy,r⟩=>⟨c,y,q,(ht c y hy).2,r⟩⟩
 obtain⟨hc,hy'⟩:=ht c y hy
 obtain⟨q,h1,h2⟩:=h.blk c y hy'
 exact⟨q,h1,h2.at (hw _ (hother c y hy' hc q h1))⟩
theorem Step.forget {P:Program} {ι:Inj} {m:Mem} {w:World} (h:Rel P ι m w) {t':T Blk} (ht:∀b x,t'.find b b=some x→m.t.find b b=some x):Step P ι m w ι ⟨m.next,t'⟩ w:=
 ⟨.refl _,⟨h.fresh,h.low,fun b x hx=>h.blk b x (ht b x hx),fun b c x y p q hx hy=>h.apart b c x y p q (ht b x hx) (ht c y hy)⟩,Nat.le_refl _,fun _ _ _=>rfl,
  fun _ _ ⟨b,x,p,hx,r⟩=>⟨b,x,p,ht b x hx,r⟩,rfl,rfl,rfl,Nat.le_refl _,fun _ _ h=>h,fun _ _ ⟨b,x,p,hx,r⟩=>⟨b,x,p,ht b x hx,r⟩⟩
end Go.AM
end
