/- The data of the abstract memory: values with abstract block numbers, t -/
import GoSem.Machine.Frame
set_option maxRecDepth 100000
set_option maxHeartbeats 40000000
set_option linter.all false
open Option renaming map_eq_some_iff->rA,bind_eq_some_iff->rB
open List renaming getElem?_drop->rC,getElem?_take->rE
open Nat renaming eq_of_beq_eq_true->rD,zero_le->rF,le_refl->rG
open Go
namespace Go.AM
variable {k tag:Nat}{L:List Value}
inductive T (α:Type) where
 |nil (d:Nat)
 |leaf (k:Nat) (a:α)
 |node (l r:T α)
inductive AV where
 |bool (b:Bool)
 |int (k:IntKind) (n:Int)
 |str (s:List UInt8)
 |ptr (b o:Nat)
 |nilp
 |sl (b o len:Nat) (cap:Option Nat)
 |nils
 |mp (b:Nat)
 |nilm
 |fn (f:Fn) (first cap:List AV)
 |nilf
 |ifc (t:TypeId) (v:AV)
 |nili
 |agg (cs:List AV)
 |tup (vs:List AV)
 |dead (b o l d:Nat)
def AV.cells:AV->List AV
 | .agg cs=>cs
 |v=>[v]
def AV.undef:AV:=.tup []
structure Ent where
 key:AV
 val:AV
 born:Nat
inductive Log where
 |nil
 |cons (d:Nat) (v:AV) (l:Log)
structure Fr where
 log:Log
 t:T AV
 n:Nat
 ng:Nat
inductive Blk where
 |cells (c:List AV) (e:TypeId) (g:Bool) (z:Nat)
 |map (es:List Ent) (clock:Nat)
 |iter (map:Option Nat) (since:Nat) (seen:List Nat) (stepped:Nat)
 |loop (st:Nat) (pend:Option Code) (fr:Fr) (mask:Nat) (fn:FuncId) (params:List Tmp) (assign body:Code)
structure Mem where
 next:Nat
 t:T Blk
inductive X where
 |n
 |x (id:Nat)
 |r
inductive R where
 |ok
 |bad (place:Nat)
 |at (f:Nat) (r:R)
 |out (v:AV) (m:Mem)
noncomputable section
def mark (_f:Nat) (r:R):R:=r
def zS (n:Nat) (f:Nat->R):R:=Nat.rec (motive:=fun _=>(Nat->R)->R) (fun f=>f Nat.zero) (fun m _ f=>f (Nat.succ m)) n f
def vW (n:Int) (f:Int->R):R:=Int.rec (motive:=fun _=>(Int->R)->R) (fun m f=>zS m fun m=>f (Int.ofNat m)) (fun m f=>zS m fun m=>f (Int.negSucc m)) n f
def ifB (tag:Nat) (b:Bool) (k:R):R:=Bool.rec (motive:=fun _=>Nat->R->R) (fun tag _=>R.bad tag) (fun _ k=>k) b tag k
def iteB {α:Type} (b:Bool) (x y:α):α:=Bool.rec y x b
def zP {α:Type} (tag:Nat) (o:Option α) (f:α->R):R:=Option.rec (motive:=fun _=>Nat->(α->R)->R) (fun tag _=>R.bad tag) (fun a _ f=>f a) o tag f
def T.getK {α:Type} (t:T α) (k:Nat) (f:α->R):R:=
 T.rec (motive:=fun _=>Nat->Nat->(α->R)->R) (fun _ _ _ _=>R.bad 0)
  (fun key a _ k f=>ifB 0 (Nat.beq key k) (f a))
  (fun _ _ ihl ihr p k f=>Nat.rec (motive:=fun _=>R) (ihl (Nat.div p 2) k f) (fun _ _=>ihr (Nat.div p 2) k f) (Nat.mod p 2)) t k k f
def T.singleK {α:Type} (a:α) (key:Nat) (d:Nat):Nat->(T α->R)->R:=
 Nat.rec (motive:=fun _=>Nat->(T α->R)->R) (fun _ f=>f (T.leaf key a))
  (fun d ih p f=>Nat.rec (motive:=fun _=>R) (ih (Nat.div p 2) fun t=>f (T.node t (T.nil d))) (fun _ _=>ih (Nat.div p 2) fun t=>f (T.node (T.nil d) t)) (Nat.mod p 2)) d
def T.setK {α:Type} (t:T α) (k:Nat) (a:α) (f:T α->R):R:=
 T.rec (motive:=fun _=>Nat->Nat->α->(T α->R)->R) (fun d p k a f=>T.singleK a k d p f)
  (fun _ _ _ k a f=>f (T.leaf k a))
  (fun l r ihl ihr p k a f=>Nat.rec (motive:=fun _=>R) (ihl (Nat.div p 2) k a fun l=>f (T.node l r)) (fun _ _=>ihr (Nat.div p 2) k a fun r=>f (T.node l r)) (Nat.mod p 2)) t k k a f
def T.delK {α:Type} (t:T α) (k:Nat) (f:T α->R):R:=
 T.rec (motive:=fun _=>Nat->(T α->R)->R) (fun d _ f=>f (T.nil d))
  (fun _ _ _ f=>f (T.nil 0))
  (fun l r ihl ihr p f=>Nat.rec (motive:=fun _=>R) (ihl (Nat.div p 2) fun l=>f (T.node l r)) (fun _ _=>ihr (Nat.div p 2) fun r=>f (T.node l r)) (Nat.mod p 2)) t k f
def T.get {α:Type} (t:T α) (k:Nat):Option α:=
 T.rec (motive:=fun _=>Nat->Option α) (fun _ _=>none) (fun key a _=>iteB (Nat.beq key k) (some a) none)
  (fun _ _ ihl ihr p=>Nat.rec (motive:=fun _=>Option α) (ihl (Nat.div p 2)) (fun _ _=>ihr (Nat.div p 2)) (Nat.mod p 2)) t k
def Fr.getK (fr:Fr) (k:Nat) (f:AV->R):R:=
 Fr.rec (motive:=fun _=>Nat->(AV->R)->R) (fun log t _ _ k f=>Log.rec (motive:=fun _=>T AV->Nat->(AV->R)->R) (fun t k f=>t.getK k f)
  (fun d v _ ih t k f=>Bool.rec (motive:=fun _=>R) (ih t k f) (f v) (Nat.beq d k)) log t k f) fr k f
def Fr.setK (fr:Fr) (d:Nat) (v:AV) (f:Fr->R):R:=
 Fr.rec (motive:=fun _=>Nat->AV->(Fr->R)->R) (fun log t n ng d v f=>ifB 0 (Nat.ble (Nat.succ d) n) (f ⟨.cons d v log,t,n,ng⟩)) fr d v f
def Fr.flushK (fr:Fr) (mask:Nat) (f:Fr->R):R:=
 Fr.rec (motive:=fun _=>Nat->(Fr->R)->R) (fun log t n ng mask f=>Log.rec (motive:=fun _=>T AV->Nat->(T AV->R)->R) (fun t _ f=>f t)
  (fun d v _ ih t mask f=>ih t mask fun t=>Nat.rec (motive:=fun _=>R) (f t) (fun _ _=>t.setK d v f) (Nat.land (Nat.shiftRight mask d) 1)) log t mask fun t=>f ⟨.nil,t,n,ng⟩) fr mask f
def zJi {α:Type} (l:List α) (n:Nat) (f:α->R):R:=
 List.rec (motive:=fun _=>Nat->(α->R)->R) (fun _ _=>R.bad 0) (fun a _ ih n f=>Nat.rec (motive:=fun _=>R) (f a) (fun j _=>ih j f) n) l n f
def zI1 {α:Type} (l:List α) (n:Nat) (x:α) (f:List α->R):R:=
 List.rec (motive:=fun _=>Nat->α->(List α->R)->R) (fun _ _ _=>R.bad 0) (fun a l ih n x f=>Nat.rec (motive:=fun _=>R) (f (x::l)) (fun j _=>ih j x fun l=>f (a::l)) n) l n x f
def zEE {α:Type} (l:List α) (n:Nat) (f:List α->R):R:=
 List.rec (motive:=fun _=>Nat->(List α->R)->R) (fun n f=>Nat.rec (motive:=fun _=>R) (f []) (fun _ _=>R.bad 0) n) (fun a _ ih n f=>Nat.rec (motive:=fun _=>R) (f []) (fun j _=>ih j fun l=>f (a::l)) n) l n f
def zFG {α:Type} (l:List α) (n:Nat) (f:List α->R):R:=
 List.rec (motive:=fun _=>Nat->(List α->R)->R) (fun n f=>Nat.rec (motive:=fun _=>R) (f []) (fun _ _=>R.bad 0) n) (fun a l ih n f=>Nat.rec (motive:=fun _=>R) (f (a::l)) (fun j _=>ih j f) n) l n f
def zCy {α:Type} (l r:List α) (f:List α->R):R:=
 List.rec (motive:=fun _=>(List α->R)->R) (fun f=>f r) (fun a _ ih f=>ih fun l=>f (a::l)) l f
def zNq {α:Type} (xs:List α) (l:List α) (f:List α->R):R:=
 List.rec (motive:=fun _=>List α->(List α->R)->R) (fun l f=>f l) (fun x _ ih l f=>List.rec (motive:=fun _=>R) (R.bad 0) (fun _ l _=>ih l fun l=>f (x::l)) l) xs l f
def pM {α:Type} (l:List α) (n:Nat) (xs:List α) (f:List α->R):R:=
 List.rec (motive:=fun _=>Nat->(List α->R)->R) (fun n f=>Nat.rec (motive:=fun _=>R) (zNq xs [] f) (fun _ _=>R.bad 0) n) (fun a l ih n f=>Nat.rec (motive:=fun _=>R) (zNq xs (a::l) f) (fun j _=>ih j fun l=>f (a::l)) n) l n f
def zDp {α:Type} (x:List α) (n:Nat) (f:List α->R):R:=
 Nat.rec (motive:=fun _=>(List α->R)->R) (fun f=>f []) (fun _ ih f=>ih fun l=>zCy x l f) n f
def zAV {α:Type} (l:List α) (f:Nat->R):R:=
 List.rec (motive:=fun _=>Nat->(Nat->R)->R) (fun n f=>f n) (fun _ _ ih n f=>zS (Nat.succ n) fun n=>ih n f) l Nat.zero f
def zHK {α β:Type} (g:α->(β->R)->R) (l:List α) (f:List β->R):R:=
 List.rec (motive:=fun _=>(List β->R)->R) (fun f=>f []) (fun a _ ih f=>g a fun b=>ih fun l=>f (b::l)) l f
def zGa {α σ:Type} (g:α->σ->(σ->R)->R) (l:List α) (s:σ) (f:σ->R):R:=
 List.rec (motive:=fun _=>σ->(σ->R)->R) (fun s f=>f s) (fun a _ ih s f=>g a s fun s=>ih s f) l s f
end
noncomputable section
structure G where
 ft:T Func
 tt:T TypeInfo
 flat:List TypeId
 nglob:Nat
def G.info (g:G) (t:TypeId):Option TypeInfo:=g.tt.get t
def G.desc (g:G) (t:TypeId):TypeDesc:=
 match g.tt.get t with
 |some i=>(match i.desc with
  | .named _ u=>(match g.tt.get u with|some j=>j.desc|none=>.invalid)
  |d=>d)
 |none=>.invalid
def G.size (g:G) (t:TypeId):Option Nat:=match g.tt.get t with|some i=>(match g.desc t with| .invalid=>none|_=>some i.size)|none=>none
def G.agg (g:G) (t:TypeId):Bool:=match g.desc t with| .struct _=>true| .array _ _=>true|_=>false
def zPy:Value->Option AV
 | .bool b=>some (.bool b)
 | .int k n=>some (.int k n)
 | .string s=>some (.str s.data.toList)
 | .pointer none=>some .nilp
 | .slice none 0 0=>some .nils
 | .map none=>some .nilm
 | .nilFunc=>some .nilf
 | .nilIface=>some .nili
 |_=>none
def zHd:List Value->Option (List AV)
 |[]=>some []
 |v::vs=>match zPy v,zHd vs with|some a,some l=>some (a::l)|_,_=>none
def zOU:Value->Option AV
 | .agg cs=>match zHd cs.toList with|some l=>some (.agg l)|none=>none
 | .tuple cs=>match zHd cs.toList with|some l=>some (.tup l)|none=>none
 | .func (.func f) first cap=>if first.isEmpty&&cap.isEmpty then some (.fn (.func f) [] []) else none
 |v=>zPy v
def G.zero (g:G) (t:TypeId):Option AV:=match g.tt.get t with
 |some i=>(match i.zero with|some z=>zOU z|none=>none)
 |none=>none
def ev (x:Operand) (fr:Fr) (f:AV->R):R:=
 Operand.rec (motive:=fun _=>Fr->(AV->R)->R) (fun t fr f=>fr.getK t f) (fun v _ f=>zP 0 (zOU v) f) (fun g fr f=>ifB 0 (Nat.ble (Nat.succ g) fr.ng) (f (.ptr g 0))) (fun i _ f=>f (.fn (.func i) [] [])) x fr f
def evs (xs:List Operand) (fr:Fr) (f:List AV->R):R:=
 List.rec (motive:=fun _=>Fr->(List AV->R)->R) (fun _ f=>f []) (fun x _ ih fr f=>ev x fr fun v=>ih fr fun l=>f (v::l)) xs fr f
def evo (x:Option Operand) (fr:Fr) (f:Option AV->R):R:=match x with|none=>f none|some x=>ev x fr fun v=>f (some v)
def AV.isCell:AV->Bool
 | .agg _=>false
 | .tup _=>false
 |_=>true
def qY (l:List AV):Bool:=List.rec (motive:=fun _=>Bool) true (fun a _ ih=>iteB a.isCell ih false) l
def zD3 (v:AV) (f:Int->R):R:=(match v with| .int _ n=>f n|_=>.bad 0)
def zGx (n:Int) (f:Nat->R):R:=Int.rec (motive:=fun _=>(Nat->R)->R) (fun m f=>f m) (fun _ _=>R.bad 0) n f
def p8 (v:AV) (f:Nat->R):R:=(match v with| .int _ n=>zGx n f|_=>.bad 0)
def zBj (v:AV) (f:Bool->R):R:=(match v with| .bool b=>f b|_=>.bad 0)
def zOA (n:Int):Bool:=Int.rec (motive:=fun _=>Bool) (fun m=>Nat.ble m 9223372036854775807) (fun m=>Nat.ble m 9223372036854775807) n
def zEQ (k:IntKind) (n:Int) (f:AV->R):R:=
 IntKind.rec (motive:=fun _=>Int->(AV->R)->R) (fun n f=>vW (IntKind.i8.wrap n) fun n=>f (.int .i8 n)) (fun n f=>vW (IntKind.i16.wrap n) fun n=>f (.int .i16 n)) (fun n f=>vW (IntKind.i32.wrap n) fun n=>f (.int .i32 n)) (fun n f=>iteB (zOA n) (f (.int .i64 n)) (vW (IntKind.i64.wrap n) fun n=>f (.int .i64 n))) (fun n f=>vW (IntKind.u8.wrap n) fun n=>f (.int .u8 n)) (fun n f=>vW (IntKind.u16.wrap n) fun n=>f (.int .u16 n)) (fun n f=>vW (IntKind.u32.wrap n) fun n=>f (.int .u32 n)) (fun n f=>vW (IntKind.u64.wrap n) fun n=>f (.int .u64 n)) k n f
def zSU (b:IntKind):Bool:=IntKind.rec (motive:=fun _=>Bool) true false false false false false false false b
def zQz (b:IntKind):Bool:=IntKind.rec (motive:=fun _=>Bool) false true false false false false false false b
def zRE (b:IntKind):Bool:=IntKind.rec (motive:=fun _=>Bool) false false true false false false false false b
def zRx (b:IntKind):Bool:=IntKind.rec (motive:=fun _=>Bool) false false false true false false false false b
def zSu (b:IntKind):Bool:=IntKind.rec (motive:=fun _=>Bool) false false false false true false false false b
def zRX (b:IntKind):Bool:=IntKind.rec (motive:=fun _=>Bool) false false false false false true false false b
def zSF (b:IntKind):Bool:=IntKind.rec (motive:=fun _=>Bool) false false false false false false true false b
def zR6 (b:IntKind):Bool:=IntKind.rec (motive:=fun _=>Bool) false false false false false false false true b
def zC0 (a b:IntKind):Bool:=IntKind.rec (motive:=fun _=>IntKind->Bool) zSU zQz zRE zRx zSu zRX zSF zR6 a b
def intEq (a b:Int):Bool:=Int.rec (motive:=fun _=>Int->Bool) (fun m b=>Int.rec (motive:=fun _=>Nat->Bool) (fun n m=>Nat.beq m n) (fun _ _=>false) b m) (fun m b=>Int.rec (motive:=fun _=>Nat->Bool) (fun _ _=>false) (fun n m=>Nat.beq m n) b m) a b
def zAZ (a b:Int):Bool:=Int.rec (motive:=fun _=>Int->Bool) (fun m b=>Int.rec (motive:=fun _=>Nat->Bool) (fun n m=>Nat.ble (Nat.succ m) n) (fun _ _=>false) b m) (fun m b=>Int.rec (motive:=fun _=>Nat->Bool) (fun _ _=>true) (fun n m=>Nat.ble (Nat.succ n) m) b m) a b
def zAn (a b:List UInt8):Bool:=List.rec (motive:=fun _=>List UInt8->Bool) (fun b=>List.rec (motive:=fun _=>Bool) true (fun _ _ _=>false) b) (fun x _ ih b=>List.rec (motive:=fun _=>Bool) false (fun y b _=>iteB (Nat.beq x.toNat y.toNat) (ih b) false) b) a b
def zCF (a b:List UInt8):Bool:=List.rec (motive:=fun _=>List UInt8->Bool) (fun b=>List.rec (motive:=fun _=>Bool) false (fun _ _ _=>true) b)
 (fun x _ ih b=>List.rec (motive:=fun _=>Bool) false (fun y b _=>iteB (Nat.beq x.toNat y.toNat) (ih b) (Nat.ble (Nat.succ x.toNat) y.toNat)) b) a b
def zCz (b:Bool) (f:AV->R):R:=Bool.rec (motive:=fun _=>(AV->R)->R) (fun f=>f (.bool false)) (fun f=>f (.bool true)) b f
def zAF (h:IntKind->Int->Int->(AV->R)->R) (a b:AV) (f:AV->R):R:=
 (match a with| .int k x=>(match b with| .int j y=>ifB 0 (zC0 k j) (h k x y f)|_=>.bad 0)|_=>.bad 0)
def zHk (h:IntKind->Int->Int->(AV->R)->R) (a b:AV) (f:AV->R):R:=
 (match a with| .int k x=>(match b with| .int _ y=>h k x y f|_=>.bad 0)|_=>.bad 0)
def zTM (k:IntKind) (x y:Int) (f:AV->R):R:=vW (Int.add x y) fun n=>zEQ k n f
def zTQ (k:IntKind) (x y:Int) (f:AV->R):R:=vW (Int.sub x y) fun n=>zEQ k n f
def zTL (k:IntKind) (x y:Int) (f:AV->R):R:=vW (Int.mul x y) fun n=>zEQ k n f
def zSN (k:IntKind) (x y:Int) (f:AV->R):R:=iteB (intEq y 0) (.bad 0) (vW (Int.tdiv x y) fun n=>zEQ k n f)
def zTJ (k:IntKind) (x y:Int) (f:AV->R):R:=iteB (intEq y 0) (.bad 0) (vW (Int.tmod x y) fun n=>f (.int k n))
def kbits (k:IntKind):Nat:=IntKind.rec (motive:=fun _=>Nat) 8 16 32 64 8 16 32 64 k
def kmax (k:IntKind):Nat:=IntKind.rec (motive:=fun _=>Nat) 127 32767 2147483647 9223372036854775807 255 65535 4294967295 18446744073709551615 k
def zJC (h:Nat->Nat->Nat) (k:IntKind) (x y:Int) (f:AV->R):R:=
 zGx x fun x=>zGx y fun y=>ifB 0 (Nat.ble x (kmax k)) (ifB 0 (Nat.ble y (kmax k)) (zS (h x y) fun z=>f (.int k (Int.ofNat z))))
def zSv (k:IntKind) (x y:Int) (f:AV->R):R:=zJC Nat.land k x y f
def orH (k:IntKind) (x y:Int) (f:AV->R):R:=zJC Nat.lor k x y f
def zSX (k:IntKind) (x y:Int) (f:AV->R):R:=zJC Nat.xor k x y f
def zLz (k:IntKind) (x y:Int) (f:AV->R):R:=zJC (fun x y=>Nat.xor x (Nat.land x y)) k x y f
def zS1 (k:IntKind) (x y:Int) (f:AV->R):R:=zGx y fun y=>ifB 0 (Nat.ble y (kbits k)) (vW (Int.mul x (Int.ofNat (Nat.pow 2 y))) fun n=>zEQ k n f)
def zSs (k:IntKind) (x y:Int) (f:AV->R):R:=zGx x fun x=>zGx y fun y=>ifB 0 (Nat.ble y (kbits k)) (zS (Nat.div x (Nat.pow 2 y)) fun z=>f (.int k (Int.ofNat z)))
def cellEq (a b:AV) (f:Bool->R):R:=
 match a,b with
 | .int k x,.int j y=>ifB 0 (zC0 k j) (f (intEq x y))
 | .str x,.str y=>f (zAn x y)
 | .bool x,.bool y=>f (iteB x y (Bool.not y))
 |_,_=>.bad 0
def cellsEq (xs ys:List AV) (f:Bool->R):R:=
 List.rec (motive:=fun _=>List AV->(Bool->R)->R) (fun ys f=>List.rec (motive:=fun _=>R) (f true) (fun _ _ _=>f false) ys)
  (fun x _ ih ys f=>List.rec (motive:=fun _=>R) (R.bad 0) (fun y ys _=>cellEq x y fun b=>Bool.rec (motive:=fun _=>R) (f false) (ih ys f) b) ys) xs ys f
def G.isFlat (g:G) (t:TypeId):Bool:=List.rec (motive:=fun _=>Bool) false (fun u _ ih=>iteB (Nat.beq t u) true ih) g.flat
def sameCls (x z:AV):Bool:=match x,z with
 | .int _ _,.int _ _=>true
 | .str _,.str _=>true
 | .bool _,.bool _=>true
 |_,_=>false
def fitsB (xs zs:List AV):Bool:=
 List.rec (motive:=fun _=>List AV->Bool) (fun zs=>List.rec (motive:=fun _=>Bool) true (fun _ _ _=>false) zs)
  (fun x _ ih zs=>List.rec (motive:=fun _=>Bool) false (fun z zs _=>iteB (sameCls x z) (ih zs) false) zs) xs zs
def zD5 (g:G) (t:TypeId) (xs ys:List AV) (f:Bool->R):R:=
 ifB 0 (g.isFlat t) (zP 0 (g.zero t) fun z=>ifB 0 (fitsB xs z.cells) (ifB 0 (fitsB ys z.cells) (cellsEq xs ys f)))
def zDw (g:G) (t:TypeId) (a b:AV) (f:Bool->R):R:=
 match a,b with
 | .agg xs,.agg ys=>zD5 g t xs ys f
 |a,b=>cellEq a b f
def pJ (m:Mem) (b:Nat) (f:Blk->R):R:=Mem.rec (motive:=fun _=>Nat->(Blk->R)->R) (fun _ t b f=>t.getK b f) m b f
def zA8 (m:Mem) (x:Blk) (f:Nat->Mem->R):R:=Mem.rec (motive:=fun _=>Blk->(Nat->Mem->R)->R) (fun n t x f=>t.setK n x fun t=>zS (Nat.succ n) fun n'=>f n ⟨n',t⟩) m x f
def zAq (m:Mem) (b:Nat) (x:Blk) (f:Mem->R):R:=Mem.rec (motive:=fun _=>Nat->Blk->(Mem->R)->R) (fun n t b x f=>t.setK b x fun t=>f ⟨n,t⟩) m b x f
def zMV (m:Mem) (b:Nat) (f:Mem->R):R:=Mem.rec (motive:=fun _=>Nat->(Mem->R)->R) (fun n t b f=>t.delK b fun t=>f ⟨n,t⟩) m b f
def zQU (g:G) (e:TypeId) (m:Mem) (b o c p:Nat) (f:Bool->R):R:=
 zP 0 (g.size e) fun s=>ifB 0 (Nat.ble 1 s) (pJ m b fun x=>pJ m c fun y=>match x,y with
  | .cells _ _ _ 0,.cells _ _ _ 0=>iteB (Nat.beq b c) (f (Nat.beq o p)) (f false)
  |_,_=>.bad 0)
def zLv (g:G) (e:TypeId) (m:Mem) (a b:AV) (f:Bool->R):R:=
 match a,b with
 | .nilp,.nilp=>f true
 | .nilp,.ptr _ _=>f false
 | .ptr _ _,.nilp=>f false
 | .ptr b o,.ptr c p=>zQU g e m b o c p f
 |_,_=>.bad 0
def zOq (d:TypeDesc) (a b:AV) (f:Bool->R):R:=
 match d,a,b with
 | .interface _,.ifc _ _,.nili=>f false
 |_,_,_=>.bad 0
def eqK (g:G) (t:TypeId) (lit:Bool) (m:Mem) (a b:AV) (f:Bool->R):R:=
 match g.desc t with
 | .bool=>(match a,b with| .bool x,.bool y=>f (iteB x y (Bool.not y))|_,_=>.bad 0)
 | .pointer e=>zLv g e m a b f
 |d=>zOq d a b f
def zLO (h:List UInt8->List UInt8->Bool) (s:List UInt8) (b:AV) (f:AV->R):R:=(match b with| .str y=>zCz (h s y) f|_=>.bad 0)
def vX (g:G) (t:TypeId) (lit:Bool) (m:Mem) (a b:AV) (f:AV->R):R:=eqK g t lit m a b fun r=>zCz r f
def vV (g:G) (t:TypeId) (lit:Bool) (m:Mem) (a b:AV) (f:AV->R):R:=eqK g t lit m a b fun r=>zCz (Bool.not r) f
def eqV (g:G) (t:TypeId) (lit:Bool) (m:Mem) (a b:AV) (f:AV->R):R:=(match a with| .bool _=>vX g t lit m a b f| .int _ _=>zAF (fun _ x y f=>zCz (intEq x y) f) a b f| .str s=>zLO zAn s b f| .ptr _ _=>vX g t lit m a b f| .nilp=>vX g t lit m a b f| .sl _ _ _ _=>vX g t lit m a b f| .nils=>vX g t lit m a b f| .mp _=>vX g t lit m a b f| .nilm=>vX g t lit m a b f| .fn _ _ _=>vX g t lit m a b f| .nilf=>vX g t lit m a b f| .ifc _ _=>vX g t lit m a b f| .nili=>vX g t lit m a b f| .agg _=>vX g t lit m a b f| .tup _=>vX g t lit m a b f| .dead _ _ _ _=>vX g t lit m a b f)
def neV (g:G) (t:TypeId) (lit:Bool) (m:Mem) (a b:AV) (f:AV->R):R:=(match a with| .bool _=>vV g t lit m a b f| .int _ _=>zAF (fun _ x y f=>zCz (Bool.not (intEq x y)) f) a b f| .str s=>zLO (fun x y=>Bool.not (zAn x y)) s b f| .ptr _ _=>vV g t lit m a b f| .nilp=>vV g t lit m a b f| .sl _ _ _ _=>vV g t lit m a b f| .nils=>vV g t lit m a b f| .mp _=>vV g t lit m a b f| .nilm=>vV g t lit m a b f| .fn _ _ _=>vV g t lit m a b f| .nilf=>vV g t lit m a b f| .ifc _ _=>vV g t lit m a b f| .nili=>vV g t lit m a b f| .agg _=>vV g t lit m a b f| .tup _=>vV g t lit m a b f| .dead _ _ _ _=>vV g t lit m a b f)
def zS3 (a b:AV) (f:AV->R):R:=(match a with| .int _ _=>zAF zTM a b f|_=>.bad 0)
def zIG (h:Int->Int->Bool) (hs:List UInt8->List UInt8->Bool) (a b:AV) (f:AV->R):R:=
 (match a with| .int _ _=>zAF (fun _ x y f=>zCz (h x y) f) a b f| .str s=>zLO hs s b f|_=>.bad 0)
def zTC (op:BinOp) (g:G) (t:TypeId) (lit:Bool) (m:Mem) (a b:AV) (f:AV->R):R:=
 BinOp.rec (motive:=fun _=>G->TypeId->Bool->Mem->AV->AV->(AV->R)->R) (fun _ _ _ _ a b f=>zS3 a b f) (fun _ _ _ _ a b f=>zAF zTQ a b f) (fun _ _ _ _ a b f=>zAF zTL a b f) (fun _ _ _ _ a b f=>zAF zSN a b f) (fun _ _ _ _ a b f=>zAF zTJ a b f) (fun _ _ _ _ a b f=>zAF zSv a b f) (fun _ _ _ _ a b f=>zAF orH a b f) (fun _ _ _ _ a b f=>zAF zSX a b f) (fun _ _ _ _ a b f=>zHk zS1 a b f) (fun _ _ _ _ a b f=>zHk zSs a b f) (fun _ _ _ _ a b f=>zAF zLz a b f) (fun g t lit m a b f=>eqV g t lit m a b f) (fun g t lit m a b f=>neV g t lit m a b f) (fun _ _ _ _ a b f=>zIG zAZ zCF a b f) (fun _ _ _ _ a b f=>zIG (fun x y=>Bool.not (zAZ y x)) (fun x y=>Bool.not (zCF y x)) a b f) (fun _ _ _ _ a b f=>zIG (fun x y=>zAZ y x) (fun x y=>zCF y x) a b f) (fun _ _ _ _ a b f=>zIG (fun x y=>Bool.not (zAZ x y)) (fun x y=>Bool.not (zCF x y)) a b f) op g t lit m a b f
def zDG (x:Operand):Bool:=match x with| .const _=>true|_=>false
def zNf (x y:Operand):Bool:=iteB (zDG x) true (zDG y)
def unK (op:UnOp) (a:AV) (f:AV->R):R:=
 match op,a with
 | .not,.bool b=>zCz (Bool.not b) f
 | .neg,.int k n=>vW (Int.neg n) fun n=>zEQ k n f
 |_,_=>.bad 0
def loadCells (agg:Bool) (sz:Nat) (c:List AV) (o:Nat) (f:AV->R):R:=iteB agg (zFG c o fun c=>zEE c sz fun l=>f (.agg l)) (zJi c o f)
def zNa (agg:Bool) (sz:Nat) (m:Mem) (p:AV) (f:AV->R):R:=
 (match p with| .ptr b o=>pJ m b fun x=>Blk.rec (motive:=fun _=>Bool->Nat->Nat->(AV->R)->R) (fun c _ _ _ agg sz o f=>loadCells agg sz c o f) (fun _ _ _ _ _ _=>R.bad 0) (fun _ _ _ _ _ _ _ _=>R.bad 0) (fun _ _ _ _ _ _ _ _ _ _ _ _=>R.bad 0) x agg sz o f|_=>.bad 0)
def zOL (sz:Nat) (c:List AV) (o:Nat) (vs:List AV) (f:List AV->R):R:=zAV vs fun n=>ifB 0 (Nat.beq n sz) (ifB 0 (qY vs) (pM c o vs f))
def xM (sz:Nat) (c:List AV) (o:Nat) (v:AV) (f:List AV->R):R:=ifB 0 (Nat.beq 1 sz) (zI1 c o v f)
def storeCells (sz:Nat) (c:List AV) (o:Nat) (v:AV) (f:List AV->R):R:=
 (match v with| .bool _=>xM sz c o v f| .int _ _=>xM sz c o v f| .str _=>xM sz c o v f| .ptr _ _=>xM sz c o v f| .nilp=>xM sz c o v f| .sl _ _ _ _=>xM sz c o v f| .nils=>xM sz c o v f| .mp _=>xM sz c o v f| .nilm=>xM sz c o v f| .fn _ _ _=>xM sz c o v f| .nilf=>xM sz c o v f| .ifc _ _=>xM sz c o v f| .nili=>xM sz c o v f| .agg vs=>zOL sz c o vs f| .dead _ _ _ _=>xM sz c o v f|_=>.bad 0)
def zOB (sz:Nat) (m:Mem) (p v:AV) (f:Mem->R):R:=
 (match p with| .ptr b o=>pJ m b fun x=>Blk.rec (motive:=fun _=>Nat->Mem->Nat->Nat->AV->(Mem->R)->R) (fun c e gr z sz m b o v f=>ifB 0 (Nat.ble z 1) (storeCells sz c o v fun c=>zAq m b (.cells c e gr z) f)) (fun _ _ _ _ _ _ _ _=>R.bad 0) (fun _ _ _ _ _ _ _ _ _ _=>R.bad 0) (fun _ _ _ _ _ _ _ _ _ _ _ _ _ _=>R.bad 0) x sz m b o v f|_=>.bad 0)
def zBe (g:G) (t:TypeId) (i:Nat):Option Field:=match g.desc t with| .struct fs=>fs[i]? |_=>none
def zDt (g:G) (t:TypeId) (i:Nat):Option Nat:=match zBe g t i with|some fd=>(match g.size fd.type with|some (Nat.succ _)=>some fd.offset|_=>none)|none=>none
def zME (g:G) (t:TypeId) (cs:List AV) (off:Nat) (f:AV->R):R:=
 zP 0 (g.size t) fun sz=>loadCells (g.agg t) sz cs off f
def pP (place:Nat->Option (Nat×Nat)) (fr:Fr) (parts:List (Nat×Operand)) (cs:List AV) (f:List AV->R):R:=
 zGa (fun p cs k=>ev p.2 fr fun v=>zP 0 (place p.1) fun pl=>zAV v.cells fun n=>ifB 0 (Nat.beq n pl.2) (pM cs pl.1 v.cells k)) parts cs f
def zIU (g:G) (fs:Array Field):Option (List (Nat×Nat)):=fs.toList.mapM fun f=>(g.info f.type).map fun i=>(f.offset,i.size)
def zD2 (g:G) (t:TypeId) (fr:Fr) (parts:List (Nat×Operand)) (f:AV->R):R:=
 zP 0 (g.zero t) fun z=>match z with
 | .agg zs=>(match g.desc t with
  | .struct fs=>zP 0 (zIU g fs) fun l=>pP (fun i=>l[i]?) fr parts zs fun l=>f (.agg l)
  | .array _ e=>zP 0 (g.size e) fun s=>pP (fun i=>some (Nat.mul i s,s)) fr parts zs fun l=>f (.agg l)
  |_=>.bad 0)
 |_=>.bad 0
def pE (g:G) (t:TypeId) (n:Nat) (fr:Fr) (parts:List (Nat×Operand)) (m:Mem) (f:AV->Mem->R):R:=
 match g.desc t with
 | .slice e=>zP 0 (g.size e) fun s=>ifB 0 (Nat.ble 1 s) (ifB 0 (Nat.ble (Nat.mul n s) 16777216) (zP 0 (g.zero e) fun z=>zAV z.cells fun k=>ifB 0 (Nat.beq k s) (zDp z.cells n fun zs=>
   pP (fun i=>some (Nat.mul i s,s)) fr parts zs fun l=>zA8 m (.cells l e false 0) fun b m=>f (.sl b 0 n (some n)) m)))
 |_=>.bad 0
def zAu (x:Option AV) (n:Nat) (k:Nat->R):R:=match x with|some v=>p8 v k|none=>k n
def zPD (g:G) (s:Nat) (m:Mem) (b:Nat) (k:R):R:=pJ m b fun y=>match y with
 | .cells _ e true _=>zP 0 (g.size e) fun s'=>ifB 0 (Nat.beq s' s) k
 |_=>.bad 0
def zFg (g:G) (s b o n:Nat) (cap:Option Nat) (lo hi:Option AV) (m:Mem) (f:AV->Mem->R):R:=
 zAu hi n fun h=>zAu lo 0 fun l=>ifB 0 (Nat.ble l h) (zS (Nat.sub h l) fun d=>match cap with
  |some c=>ifB 0 (Nat.ble h c) (iteB (Nat.beq c l) (f (.sl b o d (some 0)) m) (zS (Nat.add o (Nat.mul l s)) fun o=>zS (Nat.sub c l) fun c=>f (.sl b o d (some c)) m))
  |none=>ifB 0 (Nat.ble h n) (iteB (Nat.beq l 0) (f (.sl b o d none) m) (iteB (Nat.beq d 0) (zS (Nat.mul l s) fun d=>f (.dead b o l d) m)
    (zPD g s m b (zS (Nat.add o (Nat.mul l s)) fun o=>f (.sl b o d none) m)))))
def zEF (s b o n:Nat) (lo hi:Option AV) (m:Mem) (f:AV->Mem->R):R:=
 zAu hi n fun h=>zAu lo 0 fun l=>ifB 0 (Nat.ble l h) (ifB 0 (Nat.ble h n) (zS (Nat.sub h l) fun d=>zS (Nat.sub n l) fun c=>iteB (Nat.beq c 0) (f (.sl b o d (some 0)) m) (zS (Nat.add o (Nat.mul l s)) fun o=>f (.sl b o d (some c)) m)))
def zBh (g:G) (t:TypeId) (x:AV) (lo hi:Option AV) (m:Mem) (f:AV->Mem->R):R:=
 match x with
 | .sl b o n cap=>(match g.desc t with
  | .slice e=>zP 0 (g.size e) fun s=>zFg g s b o n cap lo hi m f
  |_=>.bad 0)
 | .ptr b o=>(match g.desc t with
  | .array n e=>zP 0 (g.size e) fun s=>zEF s b o n lo hi m f
  |_=>.bad 0)
 |_=>.bad 0
def zFF (g:G) (t:TypeId) (x h j:AV) (m:Mem) (f:AV->Mem->R):R:=
 p8 h fun h=>p8 j fun j=>ifB 0 (Nat.ble h j) (match x with
  | .nils=>(match g.desc t with
   | .slice e=>zP 0 (g.size e) fun _=>ifB 0 (Nat.beq j 0) (f .nils m)
   |_=>.bad 0)
  | .sl b o n cap=>(match g.desc t with
   | .slice e=>zP 0 (g.size e) fun _=>(match cap with
    |some c=>ifB 0 (Nat.ble j c) (f (.sl b o h (some j)) m)
    |none=>ifB 0 (Nat.ble j n) (f (.sl b o h (some j)) m))
   |_=>.bad 0)
  |_=>.bad 0)
def zBW (g:G) (t:TypeId):Option Nat:=match g.desc t with| .slice e=>g.size e| .array _ e=>g.size e|_=>none
def zG3 (g:G) (t:TypeId):Option Nat:=match g.desc t with| .array n _=>some n|_=>none
def vC (g:G) (t:TypeId):Bool:=match g.desc t with| .slice _=>true|_=>false
def zQS (g:G) (t:TypeId) (b o n i:Nat) (f:AV->R):R:=ifB 0 (Nat.ble (Nat.succ i) n) (ifB 0 (vC g t) (zP 0 (zBW g t) fun s=>zS (Nat.add o (Nat.mul i s)) fun o=>f (.ptr b o)))
def zPS (g:G) (t:TypeId) (b o i:Nat) (f:AV->R):R:=zP 0 (zG3 g t) fun n=>ifB 0 (Nat.ble (Nat.succ i) n) (zP 0 (zBW g t) fun s=>zS (Nat.add o (Nat.mul i s)) fun o=>f (.ptr b o))
def zDK (g:G) (t:TypeId) (x i:AV) (f:AV->R):R:=
 p8 i fun i=>(match x with| .ptr b o=>zPS g t b o i f| .sl b o n _=>zQS g t b o n i f|_=>.bad 0)
def zO4 (g:G) (t:TypeId) (x i:AV) (f:AV->R):R:=
 p8 i fun i=>match x with
 | .str s=>(match g.desc t with
  | .string=>zJi s i fun b=>zS b.toNat fun n=>f (.int .u8 (Int.ofNat n))
  |_=>.bad 0)
 | .agg cs=>(match g.desc t with
  | .array n e=>ifB 0 (Nat.ble (Nat.succ i) n) (zP 0 (g.size e) fun s=>zME g e cs (Nat.mul i s) f)
  |_=>.bad 0)
 |_=>.bad 0
def zGX (g:G) (t:TypeId) (x:AV) (i:Nat) (f:AV->R):R:=
 (match x with| .ptr b o=>zP 0 (zDt g t i) fun d=>zS (Nat.add o d) fun o=>f (.ptr b o)|_=>.bad 0)
def zHY (g:G) (t:TypeId) (key:AV) (es:List Ent) (yes:Nat->Ent->R) (no:R):R:=
 List.rec (motive:=fun _=>Nat->R) (fun _=>no) (fun e _ ih i=>zDw g t key e.key fun b=>Bool.rec (motive:=fun _=>R) (zS (Nat.succ i) ih) (yes i e) b) es 0
def AV.plain (a:AV):Bool:=match a with| .int _ _=>true| .str _=>true| .bool _=>true|_=>false
def zBX (l:List AV):Bool:=List.rec (motive:=fun _=>Bool) true (fun a _ ih=>iteB a.plain ih false) l
def AV.isKey (g:G) (t:TypeId) (k:AV):Bool:=match g.desc t,k with
 | .int _,.int _ _=>true
 | .string,.str _=>true
 | .bool,.bool _=>true
 | .struct _,.agg xs=>iteB (zBX xs) (iteB (g.isFlat t) (match g.zero t with|some z=>fitsB xs z.cells|none=>false) false) false
 | .array _ _,.agg xs=>iteB (zBX xs) (iteB (g.isFlat t) (match g.zero t with|some z=>fitsB xs z.cells|none=>false) false) false
 |_,_=>false
def zIs (g:G) (t:TypeId) (x key:AV) (ok:Bool) (m:Mem) (f:AV->R):R:=
 match g.desc t with
 | .map kt e=>ifB 0 (key.isKey g kt) (
   let out (v:AV) (b:Bool):R:=iteB ok (f (.tup [v,.bool b])) (f v)
   let none_:R:=zP 0 (g.zero e) fun z=>out z false
   match x with
   | .nilm=>none_
   | .mp b=>pJ m b fun x=>(match x with
    | .map es _=>zHY g kt key es (fun _ e=>out e.val true) none_
    |_=>.bad 0)
   |_=>.bad 0)
 |_=>.bad 0
def zFf (g:G) (t:TypeId) (x key val:AV) (m:Mem) (f:Mem->R):R:=
 match g.desc t with
 | .map kt _=>ifB 0 (key.isKey g kt) (match x with
   | .mp b=>pJ m b fun x=>(match x with
    | .map es c=>zHY g kt key es (fun i e=>zI1 es i ⟨key,val,e.born⟩ fun es=>zAq m b (.map es c) f)
      (zCy es [⟨key,val,c⟩] fun es=>zS (Nat.succ c) fun c=>zAq m b (.map es c) f)
    |_=>.bad 0)
   |_=>.bad 0)
 |_=>.bad 0
def zAN (s:Nat) (m:Mem) (x:AV) (f:Nat->List AV->R):R:=
 match x with
 | .nils=>f 0 []
 | .dead _ _ _ _=>f 0 []
 | .sl b o n _=>iteB (Nat.beq n 0) (f 0 []) (pJ m b fun y=>match y with
  | .cells c _ _ _=>zFG c o fun c=>zEE c (Nat.mul n s) fun l=>f n l
  |_=>.bad 0)
 | .str bs=>ifB 0 (Nat.beq s 1) (zHK (fun(u:UInt8) k=>zS u.toNat fun n=>k (AV.int .u8 (Int.ofNat n))) bs fun l=>zAV l fun n=>f n l)
 |_=>.bad 0
def zOw (z:Nat) (cs old:List AV):Bool:=iteB (Nat.beq z 2) (Nat.beq cs.length old.length) true
def zKv (by' need:Nat) (k:R):R:=ifB 0 (Nat.ble need 1099511627776) (ifB 0 (Nat.ble (Nat.mul by' (Nat.add (Nat.mul 2 need) 200)) 281474976710656) k)
def zGB (e:TypeId) (sz by':Nat) (b o len need:Nat) (new:List AV) (m:Mem) (f:AV->Mem->R):R:=
 zKv by' need (ifB 0 (qY new) (ifB 0 (Nat.beq (Nat.mod o sz) 0) (pJ m b fun y=>match y with
   | .cells cs e' true z=>ifB 0 (Nat.beq e e') (ifB 0 (Nat.ble z 2) (zFG cs o fun cs=>zEE cs (Nat.mul len sz) fun old=>zCy old new fun cs'=>ifB 0 (zOw z cs old) (zMV m b fun m=>zA8 m (.cells cs' e true z) fun b' m=>f (.sl b' 0 need none) m)))
   |_=>.bad 0)))
def zGD (sz:Nat) (b o len need c:Nat) (new:List AV) (m:Mem) (f:AV->Mem->R):R:=
 ifB 0 (qY new) (pJ m b fun y=>match y with
  | .cells cs e' gr z=>ifB 0 (Nat.ble z 1) (pM cs (Nat.add o (Nat.mul len sz)) new fun cs=>zAq m b (.cells cs e' gr z) fun m=>f (.sl b o need (some c)) m)
  |_=>.bad 0)
def zE0 (e:TypeId) (sz by':Nat) (s:AV) (need:Nat) (new:List AV) (m:Mem) (f:AV->Mem->R):R:=
 zKv by' need (zAN sz m s fun _ old=>zCy old new fun cs=>zA8 m (.cells cs e true 0) fun b m=>f (.sl b 0 need none) m)
def zJF (e:TypeId) (sz by':Nat) (s:AV) (n:Nat) (new:List AV) (m:Mem) (f:AV->Mem->R):R:=
 match s with
 | .nils=>zE0 e sz by' .nils n new m f
 | .sl b o len (some c)=>zS (Nat.add len n) fun need=>iteB (Nat.ble need c) (zGD sz b o len need c new m f) (zE0 e sz by' (.sl b o len (some c)) need new m f)
 | .sl b o len none=>zS (Nat.add len n) fun need=>zGB e sz by' b o len need new m f
 |_=>.bad 0
def zQo (s:AV) (k:R):R:=
 match s with
 | .nils=>k
 | .sl _ _ l (some c)=>ifB 0 (Nat.ble l c) k
 | .sl _ _ _ none=>k
 |_=>.bad 0
def zF8 (g:G) (t:TypeId) (s x:AV) (m:Mem) (f:AV->Mem->R):R:=
 match g.desc t with
 | .slice e=>zP 0 (g.size e) fun sz=>zP 0 (g.info e) fun ie=>ifB 0 (Nat.ble 1 sz) (zP 0 (g.zero e) fun z=>zAV z.cells fun k=>ifB 0 (Nat.beq k sz) (zAN sz m x fun n new=>iteB (Nat.beq n 0) (zQo s (f s m)) (zJF e sz ie.bytes s n new m f)))
 |_=>.bad 0
def zKu (g:G) (t:TypeId) (x:AV) (m:Mem) (f:AV->Mem->R):R:=
 match g.desc t with
 | .slice e=>(match x with
  | .sl b o n _=>iteB (Nat.beq n 0) (f (.tup []) m) (zP 0 (g.zero e) fun zv=>zDp zv.cells n fun zs=>ifB 0 (qY zs) (pJ m b fun y=>match y with
    | .cells c e' gr z=>ifB 0 (Nat.ble z 1) (pM c o zs fun c=>zAq m b (.cells c e' gr z) fun m=>f (.tup []) m)
    |_=>.bad 0))
  |_=>.bad 0)
 |_=>.bad 0
def zIg (n:Nat) (f:AV->R):R:=f (.int .i64 (Int.ofNat n))
def zBY (g:G) (t:TypeId):Bool:=match g.desc t with| .string=>true|_=>false
def zHv (g:G) (t:TypeId):Bool:=match g.desc t with| .map _ _=>true|_=>false
def zSy (g:G) (t:TypeId) (x:AV) (m:Mem) (f:AV->R):R:=
 (match x with| .str s=>ifB 0 (zBY g t) (zAV s fun n=>zIg n f)| .sl _ _ n _=>ifB 0 (vC g t) (zIg n f)| .nils=>ifB 0 (vC g t) (zIg 0 f)| .nilm=>ifB 0 (zHv g t) (zIg 0 f)| .dead _ _ _ _=>ifB 0 (vC g t) (zIg 0 f)|_=>.bad 0)
def zId (cs:List AV) (f:List UInt8->R):R:=
 zHK (fun(c:AV) k=>match c with| .int .u8 n=>zGx n fun n=>k (UInt8.ofNat n)|_=>.bad 0) cs f
def known (g:G) (t:TypeId):Bool:=match g.desc t with| .invalid=>false|_=>true
def zKh (g:G) (t:TypeId):Bool:=match g.desc t with| .int .u8=>true|_=>false
def zBq (g:G) (src:TypeId) (x:AV) (m:Mem) (f:AV->R):R:=
 match g.desc src with
 | .slice e=>ifB 0 (zKh g e) (zAN 1 m x fun _ cs=>zId cs fun l=>f (.str l))
 |_=>.bad 0
def zFw (g:G) (src dst:TypeId) (x:AV) (m:Mem) (f:AV->Mem->R):R:=
 ifB 0 (known g src) (match g.desc dst,x with
 | .int k,.int _ n=>zEQ k n fun v=>f v m
 | .string,.sl b o n c=>zBq g src (.sl b o n c) m fun v=>f v m
 |_,_=>.bad 0)
def zDY (g:G) (t:TypeId) (l c:AV) (m:Mem) (f:AV->Mem->R):R:=
 match g.desc t with
 | .slice e=>p8 l fun l=>p8 c fun c=>ifB 0 (Nat.ble l c) (ifB 0 (Nat.ble c 1048576) (zP 0 (g.size e) fun s=>ifB 0 (Nat.ble 1 s) (zP 0 (g.zero e) fun z=>zAV z.cells fun k=>ifB 0 (Nat.beq k s) (zP 0 (g.info e) fun ie=>ifB 0 (Nat.ble (Nat.mul ie.bytes c) 281474976710656) (zDp z.cells c fun zs=>zA8 m (.cells zs e false 0) fun b m=>f (.sl b 0 l (some c)) m)))))
 |_=>.bad 0
def pY (b:Bool) (x y:Int):Int:=Bool.rec y x b
def zEB (max:Bool) (vs:List AV) (f:AV->R):R:=
 match vs with
 | .int k x::rest=>zGa (fun v (a:Int) k'=>zD3 v fun y=>iteB (zAZ (pY max a y) (pY max y a)) (k' y) (k' a)) rest x fun n=>f (.int k n)
 |_=>.bad 0
def zEa (g:G) (t:TypeId):Bool:=match g.desc t with| .pointer u=>zKh g u|_=>false
inductive Tgt where
 |fn (f:FuncId) (args:List AV)
 |yield (l:Nat) (args:List AV)
abbrev yT:=Tgt->Mem->(AV->Mem->R)->R
def zCl (fn:Fn) (first cap args:List AV) (k:Tgt->R):R:=
 match fn with
 | .func i=>zCy args cap fun a=>zCy first a fun a=>k (.fn i a)
 | .yield l=>zCy first args fun a=>k (.yield l a)
 |_=>.bad 0
def zGI (f:AV) (args:List AV) (k:Tgt->R):R:=(match f with| .fn fn first cap=>zCl fn first cap args k|_=>.bad 0)
def zGG (g:G) (t:TypeId) (name:String):Option FuncId:=
 match g.info t with
 |some i=>(match i.methods.toList.find? (fun m=>m.name==name) with
  |some m=>if m.path.isEmpty then(match m.func with
    |some (f,true)=>(match g.desc t with| .pointer _=>some f|_=>none)
    |some (f,false)=>(match g.desc t with| .pointer _=>none| .invalid=>none|_=>some f)
    |none=>none) else none
  |none=>none)
 |none=>none
def zIS (g:G) (recv:AV) (name:String) (args:List AV) (k:Tgt->R):R:=
 match recv with
 | .ifc t v=>zP 0 (zGG g t name) fun f=>k (.fn f (v::args))
 |_=>.bad 0
def zAg (g:G) (b:Builtin) (ts:List TypeId) (args:List AV) (m:Mem) (f:AV->Mem->R):R:=
 match b with
 | .len=>(match ts,args with|t::_,x::_=>zSy g t x m fun v=>f v m|_,_=>.bad 0)
 | .append=>(match ts,args with
   |t::u::_,s::x::_=>(match g.desc u with| .slice _=>zF8 g t s x m f| .string=>zF8 g t s x m f|_=>.bad 0)
   |_,_=>.bad 0)
 | .clear=>(match ts,args with|t::_,x::_=>zKu g t x m f|_,_=>.bad 0)
 | .max=>zEB true args fun v=>f v m
 | .min=>zEB false args fun v=>f v m
 | .delete=>(match ts,args with
   |t::_,.mp b::key::_=>(match g.desc t with
     | .map kt _=>ifB 0 (key.isKey g kt) (pJ m b fun y=>match y with
       | .map es c=>zHY g kt key es (fun i _=>zEE es i fun l=>zFG es (Nat.succ i) fun r=>zCy l r fun es=>zAq m b (.map es c) fun m=>f (.tup []) m) (f (.tup []) m)
       |_=>.bad 0)
     |_=>.bad 0)
   |_,_=>.bad 0)
 |_=>.bad 0
def zIk (a b:R):R:=R.rec (motive:=fun _=>R->R) (fun b=>b) (fun n _=>.bad n) (fun _ _ _ _=>.bad 0) (fun _ _ _=>.bad 0) a b
def zR1 {α:Type} (l:List α) (f:α->R):R:=List.rec (motive:=fun _=>(α->R)->R) (fun _=>.ok) (fun a _ ih f=>zIk (f a) (ih f)) l f
def zRz (b mb since:Nat) (seen:List Nat) (clock:Nat) (left:List Ent) (m:Mem) (f:AV->Mem->R):R:=
 match left with
 |[]=>f (.tup [.bool false]) m
 |e::left=>ifB 0 ((e::left).all fun e=>Nat.ble (Nat.succ e.born) since) (zR1 (e::left) fun e=>zAq m b (.iter (some mb) since (seen++[e.born]) clock) fun m=>f (.tup [.bool true,e.key,e.val]) m)
def zPX (it:AV) (zBY:Bool) (m:Mem) (f:AV->Mem->R):R:=
 match it,zBY with
 | .ptr b 0,false=>pJ m b fun y=>(match y with
   | .iter none _ _ _=>f (.tup [.bool false]) m
   | .iter (some mb) since seen last=>pJ m mb fun z=>(match z with
     | .map es clock=>ifB 0 (seen.isEmpty||es.isEmpty|| !(es.all fun e=>Nat.ble last e.born)) (zRz b mb since seen clock (es.filter fun e=>!(seen.any fun s=>s==e.born)) m f)
     |_=>.bad 0)
   |_=>.bad 0)
 |_,_=>.bad 0
def zL4 (x:AV) (m:Mem) (f:AV->Mem->R):R:=
 match x with
 | .nilm=>zA8 m (.iter none 0 [] 0) fun b m=>f (.ptr b 0) m
 | .mp b=>pJ m b fun y=>(match y with| .map _ c=>zA8 m (.iter (some b) c [] c) fun b m=>f (.ptr b 0) m|_=>.bad 0)
 |_=>.bad 0
def zL2 (it:AV) (m:Mem) (f:AV->Mem->R):R:=
 match it with
 | .ptr b 0=>pJ m b fun y=>(match y with
   | .iter (some mb) _ seen last=>pJ m mb fun z=>(match z with
     | .map es c=>ifB 0 (Nat.beq c last) (zP 0 seen.getLast? fun s=>zP 0 (es.find? fun e=>e.born==s) fun e=>f (.tup [e.key,e.val]) m)
     |_=>.bad 0)
   |_=>.bad 0)
 |_=>.bad 0
def zIW (g:G) (x:AV) (a:TypeId) (ok:Bool) (f:AV->R):R:=
 match g.desc a,x with
 | .interface _,_=>.bad 0
 | .invalid,_=>.bad 0
 |_,.nili=>ifB 0 ok (zP 0 (g.zero a) fun z=>f (.tup [z,.bool false]))
 |_,.ifc t v=>iteB (Nat.beq t a) (iteB ok (f (.tup [v,.bool true])) (f v)) (ifB 0 ok (zP 0 (g.zero a) fun z=>f (.tup [z,.bool false])))
 |_,_=>.bad 0
def zIt (g:G) (t:TypeId):Bool:=match g.desc t with| .interface _=>false| .invalid=>false|_=>true
def zC5 (g:G) (t:TypeId) (r:Option Operand) (fr:Fr) (m:Mem) (f:AV->Mem->R):R:=
 match r with
 |none=>zA8 m (.map [] 0) fun b m=>f (.mp b) m
 |some x=>ev x fr fun x=>(match g.desc t with| .map _ _=>zD3 x fun _=>zA8 m (.map [] 0) fun b m=>f (.mp b) m|_=>.bad 0)
def zFi (fn:Fn):Bool:=match fn with| .yield _=>false|_=>true
def zE9 (v:AV) (f:AV->R):R:=match v with| .ptr b o=>f (.ptr b o)|_=>.bad 0
def zCO (call:yT) (g:G) (c:Call) (args:List AV) (fr:Fr) (m:Mem) (f:AV->Mem->R):R:=
 Callee.rec (motive:=fun _=>yT->G->Call->List AV->Fr->Mem->(AV->Mem->R)->R)
  (fun x call _ _ args fr m f=>ev x fr fun x=>zGI x args fun t=>call t m f)
  (fun r name call g _ args fr m f=>ev r fr fun r=>zIS g r name args fun t=>call t m f)
  (fun b _ g c args _ m f=>zAg g b c.argTypes.toList args m f) c.callee call g c args fr m f
def opK (o:Op) (g:G) (call:yT) (fr:Fr) (m:Mem) (f:AV->Mem->R):R:=
 Op.rec (motive:=fun _=>G->yT->Fr->Mem->(AV->Mem->R)->R) (fun x _ _ fr m f=>ev x fr fun v=>f v m) (fun x _ _ fr m f=>ev x fr fun v=>f v m) (fun c a b _ _ fr m f=>ev c fr fun c=>zBj c fun c=>ev (iteB c a b) fr fun v=>f v m) (fun e g _ _ m f=>zP 0 (g.zero e) fun z=>zA8 m (.cells z.cells e false 0) fun b m=>f (.ptr b 0) m) (fun e x _ _ fr m f=>ev x fr fun v=>zA8 m (.cells v.cells e false 0) fun b m=>f (.ptr b 0) m) (fun t ps g _ fr m f=>zD2 g t fr ps.toList fun v=>f v m) (fun t n ps g _ fr m f=>pE g t n fr ps.toList m f) (fun t x k v g _ fr m f=>ev x fr fun x=>ev k fr fun k=>ev v fr fun v=>zFf g t x k v m fun m=>f .undef m) (fun t a g _ fr m f=>ev a fr fun a=>zP 0 (g.size t) fun s=>zNa (g.agg t) s m a fun v=>f v m) (fun t a x g _ fr m f=>ev a fr fun a=>ev x fr fun v=>zP 0 (g.size t) fun s=>zOB s m a v fun m=>f .undef m) (fun _ _ _ _ _ _=>R.bad 0) (fun _ _ _ _ _ _=>R.bad 0) (fun x _ _ fr m f=>ev x fr fun v=>zE9 v fun v=>f v m) (fun op t a b _ g _ fr m f=>ev a fr fun x=>ev b fr fun y=>zTC op g t (zNf a b) m x y fun v=>f v m) (fun op _ x _ _ fr m f=>ev x fr fun x=>unK op x fun v=>f v m) (fun s d x g _ fr m f=>ev x fr fun x=>zFw g s d x m f) (fun _ _ _ _ _ _ _=>R.bad 0) (fun t x g _ fr m f=>ev x fr fun x=>ifB 0 (zIt g t) (f (.ifc t x) m)) (fun fn first cap _ _ fr m f=>ifB 0 (zFi fn) (evs first.toList fr fun a=>evs cap.toList fr fun c=>f (.fn fn a c) m)) (fun t r g _ fr m f=>zC5 g t r fr m f) (fun _ _ _ _ _ _ _=>R.bad 0) (fun t l c g _ fr m f=>ev l fr fun l=>ev c fr fun c=>zDY g t l c m f) (fun t x lo hi mx g _ fr m f=>iteB (Option.isNone mx) (ev x fr fun x=>evo lo fr fun lo=>evo hi fr fun hi=>zBh g t x lo hi m f) (ifB 0 (Option.isNone lo) (ev x fr fun x=>evo hi fr fun h=>evo mx fr fun j=>zP 0 h fun h=>zP 0 j fun j=>zFF g t x h j m f))) (fun t x i g _ fr m f=>ev x fr fun x=>zGX g t x i fun v=>f v m) (fun t x i g _ fr m f=>ev x fr fun x=>(match x with| .agg cs=>zP 0 (zBe g t i) fun fd=>zME g fd.type cs fd.offset fun v=>f v m|_=>.bad 0)) (fun t x i g _ fr m f=>ev x fr fun x=>ev i fr fun i=>zDK g t x i fun v=>f v m) (fun t x i g _ fr m f=>ev x fr fun x=>ev i fr fun i=>zO4 g t x i fun v=>f v m) (fun t x i ok g _ fr m f=>ev x fr fun x=>ev i fr fun i=>zIs g t x i ok m fun v=>f v m) (fun t x k v g _ fr m f=>ev x fr fun x=>ev k fr fun k=>ev v fr fun v=>zFf g t x k v m fun m=>f .undef m) (fun _ _ _ _ _ _ _ _=>R.bad 0) (fun _ _ _ _ _ _ _ _ _=>R.bad 0) (fun t x g _ fr m f=>ev x fr fun x=>ifB 0 (zHv g t) (zL4 x m f)) (fun it s _ _ fr m f=>ev it fr fun it=>zPX it s m f) (fun it _ _ fr m f=>ev it fr fun it=>zL2 it m f) (fun x _ a ok g _ fr m f=>ev x fr fun x=>zIW g x a ok fun v=>f v m) (fun t i _ _ fr m f=>ev t fr fun t=>(match t with| .tup vs=>zJi vs i fun v=>f v m|_=>.bad 0)) (fun c g call fr m f=>evs c.args.toList fr fun args=>zCO call g c args fr m f) (fun _ _ _ _ _ _=>R.bad 0) (fun _ _ _ _ _ _=>R.bad 0) (fun _ _ _ _ _ _=>R.bad 0) (fun _ _ _ _ _ _ _=>R.bad 0) (fun _ _ _ _ _ _ _ _=>R.bad 0) (fun _ _ _ _ _ _ _=>R.bad 0) o g call fr m f
def pZ (fr:Fr) (d:Option Tmp) (v:AV) (f:Fr->R):R:=Option.rec (motive:=fun _=>Fr->AV->(Fr->R)->R) (fun fr _ f=>f fr) (fun d fr v f=>fr.setK d v f) d fr v f
def xE (ops:Array Oper) (j:Nat):Option Nat:=(ops[j]?).bind (·.dst)
def pK (want:Bool) (c:AV):Bool:=match c with| .bool b=>iteB want b (Bool.not b)|_=>false
def zKZ (g:G) (call:yT) (ops:Array Oper) (o:Oper) (fr:Fr) (m:Mem) (f:Fr->Mem->R):R:=
 Option.rec (motive:=fun _=>G->yT->Array Oper->Oper->Fr->Mem->(Fr->Mem->R)->R)
  (fun g call _ o fr m f=>opK o.op g call fr m fun v m=>pZ fr o.dst v fun fr=>f fr m)
  (fun jw g call ops o fr m f=>zP 0 (xE ops jw.1) fun d=>fr.getK d fun c=>
   iteB (pK jw.2 c) (opK o.op g call fr m fun v m=>pZ fr o.dst v fun fr=>f fr m) (pZ fr o.dst .undef fun fr=>f fr m))
  o.guard g call ops o fr m f
def zO6 (g:G) (call:yT) (ops:Array Oper) (l:List Oper) (fr:Fr) (m:Mem) (f:Fr->Mem->R):R:=
 List.rec (motive:=fun _=>G->yT->Array Oper->Fr->Mem->(Fr->Mem->R)->R) (fun _ _ _ fr m f=>f fr m)
  (fun o _ ih g call ops fr m f=>zKZ g call ops o fr m fun fr m=>ih g call ops fr m f) l g call ops fr m f
abbrev zI9:=AV->Mem->Fr->Array Tmp->Code->Code->(Option Code->Mem->R)->R
abbrev KX:=X->Fr->Mem->R
abbrev zDI:=Nat->Array Oper->Fr->Mem->(Fr->Mem->R)->R
structure Ax where
 g:G
 fuel:Nat
 mask:Nat
 call:yT
 range:zI9
 draw:zDI
def zQy (e:X) (fr:Fr) (m:Mem) (ihb:Ax->Fr->Mem->KX->R) (a:Ax) (k:KX):R:=
 X.rec (motive:=fun _=>Fr->Mem->(Ax->Fr->Mem->KX->R)->Ax->KX->R) (fun fr m ihb a k=>ihb a fr m k) (fun id fr m _ _ k=>k (.x id) fr m) (fun fr m _ _ k=>k .r fr m) e fr m ihb a k
def zNi (e:X) (id:Nat) (fr:Fr) (m:Mem) (k:KX):R:=
 X.rec (motive:=fun _=>Nat->Fr->Mem->KX->R) (fun _ fr m k=>k .n fr m) (fun j id fr m k=>iteB (Nat.beq j id) (k .n fr m) (k (.x j) fr m)) (fun _ fr m k=>k .r fr m) e id fr m k
def zQq (e:X) (again:Ax->Fr->Mem->KX->R) (a:Ax) (fr:Fr) (m:Mem) (k:KX):R:=
 X.rec (motive:=fun _=>(Ax->Fr->Mem->KX->R)->Ax->Fr->Mem->KX->R) (fun again a fr m k=>again a fr m k) (fun id _ _ fr m k=>k (.x id) fr m) (fun _ _ fr m k=>k .r fr m) e again a fr m k
def zLj (ih:Ax->Fr->Mem->KX->R) (fuel:Nat):Ax->Fr->Mem->KX->R:=
 Nat.rec (motive:=fun _=>Ax->Fr->Mem->KX->R) (fun _ _ _ _=>R.bad 0) (fun _ again a fr m k=>ih a fr m fun e fr m=>zQq e again a fr m k) fuel
def zQd (j:Option Code) (fr:Fr) (m:Mem) (k:KX):R:=match j with
 |none=>k .n fr m
 |some .ret=>k .r fr m
 |some (.exit id)=>k (.x id) fr m
 |_=>.bad 0
def zPd (id:Nat) (ops:Array Oper) (d:Bool) (a:Ax) (fr:Fr) (m:Mem) (f:Fr->Mem->R):R:=
 Bool.rec (motive:=fun _=>R) (zO6 a.g a.call ops ops.toList fr m f) (a.draw id ops fr m f) d
def exK (c:Code) (a:Ax) (fr:Fr) (m:Mem) (k:KX):R:=
 Code.rec (motive:=fun _=>Ax->Fr->Mem->KX->R) (fun _ fr m k=>k .n fr m) (fun id ops d a fr m k=>zPd id ops d a fr m fun fr m=>fr.flushK a.mask fun fr=>k .n fr m) (fun _ _ iha ihb a fr m k=>iha a fr m fun e fr m=>zQy e fr m ihb a k) (fun x _ _ iha ihb a fr m k=>ev x fr fun v=>zBj v fun b=>Bool.rec (motive:=fun _=>R) (ihb a fr m k) (iha a fr m k) b) (fun id _ ih a fr m k=>ih a fr m fun e fr m=>zNi e id fr m k) (fun _ ih a fr m k=>zLj ih a.fuel a fr m k) (fun x ps asg body _ _ a fr m k=>ev x fr fun v=>a.range v m fr ps asg body fun j m=>zQd j fr m k) (fun id _ fr m k=>k (.x id) fr m) (fun _ ih a fr m k=>ih a fr m k) (fun _ _ fr m k=>k .n fr m) (fun _ _ _ _ _=>R.bad 0) (fun _ fr m k=>k .r fr m) (fun _ _ _ _ _=>R.bad 0) c a fr m k
def zD7 (g:G) (fr:Fr) (m:Mem) (r:ResultVar) (k:AV->R):R:=match r with
 | .tmp t=>fr.getK t k
 | .cell a t=>fr.getK a fun p=>zP 0 (g.size t) fun s=>zNa (g.agg t) s m p k
def zSO (l:List AV) (f:AV->R):R:=match l with
 |[v]=>f v
 |l=>f (.tup l)
def zIy (g:G) (rs:List ResultVar) (fr:Fr) (m:Mem) (f:AV->R):R:=zHK (zD7 g fr m) rs fun l=>zSO l f
def zLd (args:List AV) (n:Nat) (l:Log) (f:Log->R):R:=
 List.rec (motive:=fun _=>Nat->Log->(Log->R)->R) (fun _ l f=>f l) (fun v _ ih n l f=>zS (Nat.succ n) fun n'=>ih n' (.cons n v l) f) args n l f
def zFp (ts:List Nat):Nat:=ts.foldl (fun m t=>Nat.lor m (Nat.shiftLeft 1 t)) 0
def zK3 (xs:List Operand):List Nat:=xs.filterMap fun| .tmp t=>some t|_=>none
def zLk (all:Array Oper):List Oper->Nat->Nat
 |[],_=>0
 |o::l,defs=>
  let uses:=Nat.lor (zFp (zK3 o.op.operands.toList)) (match o.guard with|some (j,_)=>zFp (xE all j).toList|none=>0)
  let rest:=zLk all l (match o.dst with|some d=>Nat.lor defs (Nat.shiftLeft 1 d)|none=>defs)
  Nat.lor (Nat.xor uses (Nat.land uses defs)) rest
def zAP:Code->Nat
 | .region _ ops _=>zLk ops ops.toList 0
 | .seq a b=>Nat.lor (zAP a) (zAP b)
 | .cond x a b=>Nat.lor (zFp (zK3 [x])) (Nat.lor (zAP a) (zAP b))
 | .block _ c| .loop c| .scope c=>zAP c
 | .rangeFunc x _ a b=>Nat.lor (zFp (zK3 [x])) (Nat.lor (zAP a) (zAP b))
 |_=>0
def qJ (fn:Func):Nat:=Nat.lor (zFp (fn.results.toList.map fun| .tmp t=>t| .cell a _=>a)) (match fn.body with|some c=>zAP c|none=>0)
def zPO (l:Nat) (k:Option Code->Mem->R) (m:Mem) (y:Blk):R:=match y with
 | .loop st pend _ _ _ _ _ _=>ifB 0 (Bool.not (Nat.beq st 1)) (zMV m l fun m=>k pend m)
 |_=>.bad 0
def zDx (g:G) (ih:yT) (l:Nat) (m:Mem) (k:Option Code->Mem->R) (t:Tgt):R:=match t with
 | .fn f args=>g.ft.getK f fun fn=>ifB 0 fn.body.isSome (ih (.fn f args) m fun _ m=>pJ m l fun y=>zPO l k m y)
 |_=>.bad 0
def zAA (g:G) (ih:yT) (mask:Nat) (self:FuncId):zI9:=fun v m fr ps asg body k=>
 zA8 m (.loop 0 none fr mask self ps.toList asg body) fun l m=>zGI v [.fn (.yield l) [] []] (zDx g ih l m k)
def zF2:zI9:=fun _ _ _ _ _ _ _=>.bad 0
def zNn (l:Nat) (st:Nat) (pend:Option Code) (b:Bool) (m:Mem) (k:AV->Mem->R):R:=
 pJ m l fun y=>match y with
 | .loop _ _ fr n f ps asg body=>zAq m l (.loop st pend fr n f ps asg body) fun m=>k (.bool b) m
 |_=>.bad 0
def zJd (g:G) (fuel:Nat) (draw:FuncId->zDI) (ih:yT) (f:FuncId) (fn:Func) (args:List AV) (m:Mem) (k:AV->Mem->R):R:=
 match fn.body with
 |some c=>zS (qJ fn) fun mask=>zAV args fun n=>ifB 0 (Nat.ble n fn.ntmps) (zLd args 0 .nil fun log=>
   exK c ⟨g,fuel,mask,ih,zAA g ih mask f,draw f⟩ ⟨log,.nil 8,fn.ntmps,g.nglob⟩ m fun e fr m=>X.rec (motive:=fun _=>R) (zIy g fn.results.toList fr m fun v=>k v m) (fun _=>.bad 0) (zIy g fn.results.toList fr m fun v=>k v m) e)
 |none=>.bad 0
def zI0 (ps:List Tmp) (args:List AV) (fr:Fr) (f:Fr->R):R:=match ps,args with
 |[],[]=>f fr
 |p::ps,a::args=>fr.setK p a fun fr=>zI0 ps args fr f
 |_,_=>.bad 0
def zRa (l:Nat) (m:Mem) (k:Mem->R):R:=
 pJ m l fun y=>match y with
 | .loop 0 p fr mask f ps asg body=>zAq m l (.loop 1 p fr mask f ps asg body) k
 |_=>.bad 0
def zKA (g:G) (fuel:Nat) (draw:FuncId->zDI) (ih:yT) (l:Nat) (args:List AV) (m:Mem) (k:AV->Mem->R):R:=
 pJ m l fun y=>match y with
 | .loop _ _ fr mask f ps asg body=>zI0 ps args fr fun fr'=>
   exK asg ⟨g,fuel,mask,ih,zF2,draw f⟩ fr' m fun e fr' m=>X.rec (motive:=fun _=>R)
    (zRa l m fun m=>exK body ⟨g,fuel,mask,ih,zF2,draw f⟩ fr' m fun e _ m=>
     X.rec (motive:=fun _=>R) (zNn l 0 none true m k) (fun id=>zNn l 2 (some (.exit id)) false m k) (zNn l 2 (some .ret) false m k) e)
    (fun _=>.bad 0) (.bad 0) e
 |_=>.bad 0
def zFC (g:G) (fuel:Nat) (draw:yT->FuncId->zDI) (depth:Nat):yT:=
 Nat.rec (motive:=fun _=>yT) (fun _ _ _=>.bad 0)
  (fun _ ih t m k=>Tgt.rec (motive:=fun _=>G->Nat->(yT->FuncId->zDI)->yT->Mem->(AV->Mem->R)->R) (fun f args g fuel draw ih m k=>mark f (g.ft.getK f fun fn=>zJd g fuel (draw ih) ih f fn args m k)) (fun l args g fuel draw ih m k=>zKA g fuel (draw ih) ih l args m k) t g fuel draw ih m k) depth
def zA6 {α:Type} (l:List α) (n:Nat) (t:T α) (f:T α->R):R:=
 List.rec (motive:=fun _=>Nat->T α->(T α->R)->R) (fun _ t f=>f t) (fun a _ ih n t f=>t.setK n a fun t=>zS (Nat.succ n) fun n=>ih n t f) l n t f
end
theorem zN (n:Nat) (f:Nat->R):zS n f=f n:=by cases n<;>rfl
theorem qR (n:Int) (f:Int->R):vW n f=f n:=by
 cases n with
 |ofNat m=>exact zN m fun m=>f (Int.ofNat m)
 |negSucc m=>exact zN m fun m=>f (Int.negSucc m)
theorem zB {b:Bool}{k:R} (h:ifB tag b k=.ok):b=true/\k=.ok:=by
 cases b
 ·cases h
 ·exact⟨rfl,h⟩
theorem zV {α:Type} (b:Bool) (x y:α):iteB b x y=if b=true then x else y:=by cases b<;>rfl
theorem zF {α:Type} {o:Option α} {f:α->R} (h:zP tag o f=.ok):∃a,o=some a/\f a=.ok:=by
 cases o with
 |none=>cases h
 |some a=>exact⟨a,rfl,h⟩
theorem xB {α:Type} (x y:α) (n:Nat):(Nat.rec (motive:=fun _=>α) x (fun _ _=>y) n)=if n=0 then x else y:=by cases n<;>rfl
def T.find {α:Type}:T α->Nat->Nat->Option α
 | .nil _,_,_=>none
 | .leaf key a,_,k=>if key=k then some a else none
 | .node l r,p,k=>if Nat.mod p 2=0 then l.find (Nat.div p 2) k else r.find (Nat.div p 2) k
theorem T.get_eq {α:Type} (t:T α) (k:Nat):t.get k=t.find k k:=by
 have h:∀(t:T α) (p:Nat),(T.rec (motive:=fun _=>Nat->Option α) (fun _ _=>none) (fun key a _=>iteB (Nat.beq key k) (some a) none)
  (fun _ _ ihl ihr p=>Nat.rec (motive:=fun _=>Option α) (ihl (Nat.div p 2)) (fun _ _=>ihr (Nat.div p 2)) (Nat.mod p 2)) t p:Option α)=t.find p k:=by
  intro t;induction t with
  |nil d=>intro p;rfl
  |leaf key a=>
   intro p;show iteB (Nat.beq key k) (some a) none=if key=k then some a else none
   rw[zV];by_cases e:key=k
   ·simp[e]
   ·have:Nat.beq key k=false:=by cases h:Nat.beq key k with|false=>rfl|true=>exact absurd (rD h) e
    simp[e,this]
  |node l r ihl ihr=>
   intro p;show(Nat.rec (motive:=fun _=>Option α) _ (fun _ _=>_) (Nat.mod p 2):Option α)=_;rw[xB,ihl,ihr];rfl
 exact h t k
theorem T.getK_ok {α:Type} {t:T α} {f:α->R} (h:t.getK k f=.ok):∃a,t.find k k=some a/\f a=.ok:=by
 suffices H:∀(t:T α) (p:Nat),(T.rec (motive:=fun _=>Nat->Nat->(α->R)->R) (fun _ _ _ _=>R.bad 0)
  (fun key a _ k f=>ifB 0 (Nat.beq key k) (f a))
  (fun _ _ ihl ihr p k f=>Nat.rec (motive:=fun _=>R) (ihl (Nat.div p 2) k f) (fun _ _=>ihr (Nat.div p 2) k f) (Nat.mod p 2)) t p k f:R)=.ok->∃a,t.find p k=some a/\f a=.ok from H t k h
 intro t;induction t with
 |nil d=>intro p h;cases h
 |leaf key a=>
  intro p h;obtain⟨h1,h2⟩:=zB h;exact⟨a,by simp[T.find,rD h1],h2⟩
 |node l r ihl ihr=>
  intro p h;have h':(Nat.rec (motive:=fun _=>R) _ (fun _ _=>_) (Nat.mod p 2):R)=.ok:=h;rw[xB] at h';simp only[T.find];split at h'<;>rename_i e
  ·rw[if_pos e];exact ihl _ h'
  ·rw[if_neg e];exact ihr _ h'
def T.sub {α:Type} (t' t:T α) (k:Nat) (a:α):Prop:=∀k' x,t'.find k' k'=some x->(k'=k/\x=a)∨(k'≠k/\t.find k' k'=some x)
theorem T.singleK_ok {α:Type} {a:α}{key:Nat} (d:Nat):∀ {p:Nat} {f:T α->R},T.singleK a key d p f=.ok->∃t',f t'=.ok/\∀p' k' x,t'.find p' k'=some x->k'=key/\x=a:=by
 induction d with
 |zero=>
  intro p f h;refine⟨_,h,fun p' k' x hx=>?_⟩;simp only[T.find] at hx;split at hx
  ·injection hx with hx;exact⟨by rename_i e;exact e.symm,hx.symm⟩
  ·cases hx
 |succ d ih=>
  intro p f h;have h':(Nat.rec (motive:=fun _=>R) (T.singleK a key d (Nat.div p 2) fun t=>f (T.node t (T.nil d))) (fun _ _=>T.singleK a key d (Nat.div p 2) fun t=>f (T.node (T.nil d) t)) (Nat.mod p 2):R)=.ok:=h;rw[xB] at h';split at h'
  ·obtain⟨t',h1,h2⟩:=ih h'
   refine⟨_,h1,fun p' k' x hx=>?_⟩;simp only[T.find] at hx;split at hx
   ·exact h2 _ _ _ hx
   ·cases hx
  ·obtain⟨t',h1,h2⟩:=ih h'
   refine⟨_,h1,fun p' k' x hx=>?_⟩;simp only[T.find] at hx;split at hx
   ·cases hx
   ·exact h2 _ _ _ hx
theorem T.setK_ok {α:Type} {t:T α} {a:α} {f:T α->R} (h:t.setK k a f=.ok):∃t',f t'=.ok/\t'.sub t k a:=by
 suffices H:∀(t:T α) (p:Nat) (f:T α->R),(T.rec (motive:=fun _=>Nat->Nat->α->(T α->R)->R) (fun d p k a f=>T.singleK a k d p f)
  (fun _ _ _ k a f=>f (T.leaf k a))
  (fun l r ihl ihr p k a f=>Nat.rec (motive:=fun _=>R) (ihl (Nat.div p 2) k a fun l=>f (T.node l r)) (fun _ _=>ihr (Nat.div p 2) k a fun r=>f (T.node l r)) (Nat.mod p 2)) t p k a f:R)=.ok->
   ∃t',f t'=.ok/\∀p' k' x,(k'=k->p'=p)->t'.find p' k'=some x->(k'=k/\x=a)∨(k'≠k/\t.find p' k'=some x) by
  obtain⟨t',h1,h2⟩:=H t k f h;exact⟨t',h1,fun k' x hx=>h2 k' k' x id hx⟩
 intro t;induction t with
 |nil d=>
  intro p f h;obtain⟨t',h1,h2⟩:=T.singleK_ok d h;exact⟨t',h1,fun p' k' x _ hx=>.inl (h2 _ _ _ hx)⟩
 |leaf key b=>
  intro p f h;refine⟨_,h,fun p' k' x _ hx=>?_⟩;simp only[T.find] at hx;split at hx
  ·injection hx with hx;exact .inl ⟨by rename_i e;exact e.symm,hx.symm⟩
  ·cases hx
 |node l r ihl ihr=>
  intro p f h;have h':(Nat.rec (motive:=fun _=>R) _ (fun _ _=>_) (Nat.mod p 2):R)=.ok:=h;rw[xB] at h';split at h'<;>rename_i e
  ·obtain⟨t',h1,h2⟩:=ihl _ _ h'
   refine⟨_,h1,fun p' k' x hk hx=>?_⟩;simp only[T.find] at hx ⊢;split at hx<;>rename_i e'
   ·rw[if_pos e']
    exact h2 _ _ _ (fun e=>by rw[hk e]) hx
   ·rw[if_neg e']
    exact .inr ⟨fun ek=>e' (by rw[hk ek];exact e),hx⟩
  ·obtain⟨t',h1,h2⟩:=ihr _ _ h'
   refine⟨_,h1,fun p' k' x hk hx=>?_⟩;simp only[T.find] at hx ⊢;split at hx<;>rename_i e'
   ·rw[if_pos e']
    exact .inr ⟨fun ek=>e (by rw[<-hk ek];exact e'),hx⟩
   ·rw[if_neg e']
    exact h2 _ _ _ (fun e=>by rw[hk e]) hx
theorem T.delK_ok {α:Type} {t:T α} {f:T α->R} (h:t.delK k f=.ok):∃t',f t'=.ok/\∀k' x,t'.find k' k'=some x->k'≠k/\t.find k' k'=some x:=by
 suffices H:∀(t:T α) (p:Nat) (f:T α->R),(T.rec (motive:=fun _=>Nat->(T α->R)->R) (fun d _ f=>f (T.nil d))
  (fun _ _ _ f=>f (T.nil 0))
  (fun l r ihl ihr p f=>Nat.rec (motive:=fun _=>R) (ihl (Nat.div p 2) fun l=>f (T.node l r)) (fun _ _=>ihr (Nat.div p 2) fun r=>f (T.node l r)) (Nat.mod p 2)) t p f:R)=.ok->
   ∃t',f t'=.ok/\∀p' k' x,(k'=k->p'=p)->t'.find p' k'=some x->k'≠k/\t.find p' k'=some x by
  obtain⟨t',h1,h2⟩:=H t k f h;exact⟨t',h1,fun k' x hx=>h2 k' k' x id hx⟩
 intro t;induction t with
 |nil d=>intro p f h;exact⟨_,h,fun p' k' x _ hx=>by simp[T.find] at hx⟩
 |leaf key b=>intro p f h;exact⟨_,h,fun p' k' x _ hx=>by simp[T.find] at hx⟩
 |node l r ihl ihr=>
  intro p f h;have h':(Nat.rec (motive:=fun _=>R) _ (fun _ _=>_) (Nat.mod p 2):R)=.ok:=h;rw[xB] at h';split at h'<;>rename_i e
  ·obtain⟨t',h1,h2⟩:=ihl _ _ h'
   refine⟨_,h1,fun p' k' x hk hx=>?_⟩;simp only[T.find] at hx ⊢;split at hx<;>rename_i e'
   ·rw[if_pos e'];exact h2 _ _ _ (fun e=>by rw[hk e]) hx
   ·rw[if_neg e'];exact⟨fun ek=>e' (by rw[hk ek];exact e),hx⟩
  ·obtain⟨t',h1,h2⟩:=ihr _ _ h'
   refine⟨_,h1,fun p' k' x hk hx=>?_⟩;simp only[T.find] at hx ⊢;split at hx<;>rename_i e'
   ·rw[if_pos e'];exact⟨fun ek=>e (by rw[<-hk ek];exact e'),hx⟩
   ·rw[if_neg e'];exact h2 _ _ _ (fun e=>by rw[hk e]) hx
def Log.find:Log->Nat->Option AV
 | .nil,_=>none
 | .cons d v l,k=>if d=k then some v else l.find k
def Fr.find (fr:Fr) (k:Nat):Option AV:=(fr.log.find k).or (fr.t.find k k)
theorem Fr.getK_ok {fr:Fr} {k:Nat} {f:AV->R} (h:fr.getK k f=.ok):∃v,fr.find k=some v/\f v=.ok:=by
 obtain⟨log,t,n,ng⟩:=fr;have h':(Log.rec (motive:=fun _=>T AV->Nat->(AV->R)->R) (fun t k f=>t.getK k f)
  (fun d v _ ih t k f=>Bool.rec (motive:=fun _=>R) (ih t k f) (f v) (Nat.beq d k)) log t k f:R)=.ok:=h
 clear h;simp only[Fr.find];induction log with
 |nil=>obtain⟨a,h1,h2⟩:=T.getK_ok h';exact⟨a,by simp[Log.find,h1],h2⟩
 |cons d v l ih=>
  simp only[Log.find];have h'':(Bool.rec (motive:=fun _=>R) _ (f v) (Nat.beq d k):R)=.ok:=h';by_cases e:d=k
  ·have hb:Nat.beq d k=true:=by simp[e]
   rw[hb] at h'';exact⟨v,by simp[e],h''⟩
  ·have hb:Nat.beq d k=false:=by cases h:Nat.beq d k with|false=>rfl|true=>exact absurd (rD h) e
   rw[hb] at h'';rw[if_neg e];exact ih h''
structure Fr.less (fr' fr:Fr):Prop where
 n:fr'.n=fr.n
 ng:fr'.ng=fr.ng
 find:∀k x,fr'.find k=some x->fr.find k=some x
def Fr.masked (fr:Fr) (mask:Nat):Prop:=∀k x,fr.t.find k k=some x->Nat.land (Nat.shiftRight mask k) 1≠0
theorem Fr.flushK_ok {fr:Fr}{mask:Nat}{f:Fr->R} (hm:fr.masked mask) (h:fr.flushK mask f=.ok):∃fr',f fr'=.ok/\fr'.less fr/\fr'.masked mask:=by
 obtain⟨log,t,n,ng⟩:=fr
 suffices H:∀(log:Log) (f:T AV->R),(Log.rec (motive:=fun _=>T AV->Nat->(T AV->R)->R) (fun t _ f=>f t)
  (fun d v _ ih t mask f=>ih t mask fun t=>Nat.rec (motive:=fun _=>R) (f t) (fun _ _=>t.setK d v f) (Nat.land (Nat.shiftRight mask d) 1)) log t mask f:R)=.ok->
   ∃t',f t'=.ok/\∀k x,t'.find k k=some x->Nat.land (Nat.shiftRight mask k) 1≠0/\(Fr.mk log t n ng).find k=some x by
  obtain⟨t',h1,h2⟩:=H log _ h;exact⟨_,h1,⟨rfl,rfl,fun k x hx=>(h2 k x (by simpa[Fr.find,Log.find] using hx)).2⟩,fun k x hx=>(h2 k x hx).1⟩
 intro log;induction log with
 |nil=>intro f h;exact⟨_,h,fun k x hx=>⟨hm k x hx,by simpa[Fr.find,Log.find] using hx⟩⟩
 |cons d v l ih=>
  intro f h;obtain⟨t',h1,h2⟩:=ih _ h;have h1':(Nat.rec (motive:=fun _=>R) (f t') (fun _ _=>t'.setK d v f) (Nat.land (Nat.shiftRight mask d) 1):R)=.ok:=h1;rw[xB] at h1';have step:∀k x,d≠k->(Fr.mk l t n ng).find k=some x->(Fr.mk (.cons d v l) t n ng).find k=some x:=fun k x hk hx=>by
   simp only[Fr.find,Log.find,if_neg hk] at hx ⊢;exact hx
  split at h1'<;>rename_i e
  ·refine⟨t',h1',fun k x hx=>⟨(h2 k x hx).1,step k x (fun ek=>?_) (h2 k x hx).2⟩⟩
   exact(h2 k x hx).1 (ek▸e)
  ·obtain⟨t2,h3,h4⟩:=T.setK_ok h1'
   refine⟨t2,h3,fun k x hx=>?_⟩;rcases h4 k x hx with⟨rfl,rfl⟩|⟨hk,hx'⟩
   ·exact⟨e,by simp[Fr.find,Log.find]⟩
   ·exact⟨(h2 k x hx').1,step k x (Ne.symm hk) (h2 k x hx').2⟩
theorem zEX {α:Type} {l:List α}:∀ {n:Nat} {f:α->R},zJi l n f=.ok->∃a,l[n]? =some a/\f a=.ok:=by
 induction l with
 |nil=>intro n f h;cases h
 |cons a l ih=>
  intro n f h;cases n with
  |zero=>exact⟨a,rfl,h⟩
  |succ n=>obtain⟨b,h1,h2⟩:=ih (n:=n) (f:=f) h;exact⟨b,by simpa using h1,h2⟩
theorem zGm {α:Type} {x:α} {l:List α}:∀ {n:Nat} {f:List α->R},zI1 l n x f=.ok->n<l.length/\f (l.set n x)=.ok:=by
 induction l with
 |nil=>intro n f h;cases h
 |cons a l ih=>
  intro n f h;cases n with
  |zero=>exact⟨by simp,h⟩
  |succ n=>obtain⟨h1,h2⟩:=ih (n:=n) (f:=fun l=>f (a::l)) h;exact⟨by simpa using h1,by simpa using h2⟩
theorem zAT {α:Type} {l:List α}:∀ {n:Nat} {f:List α->R},zEE l n f=.ok->n<=l.length/\f (l.take n)=.ok:=by
 induction l with
 |nil=>
  intro n f h;cases n with
  |zero=>exact⟨rG _,h⟩
  |succ n=>cases h
 |cons a l ih=>
  intro n f h;cases n with
  |zero=>exact⟨rF _,h⟩
  |succ n=>obtain⟨h1,h2⟩:=ih (n:=n) (f:=fun l=>f (a::l)) h;exact⟨by simpa using h1,by simpa using h2⟩
theorem zAi {α:Type} {l:List α}:∀ {n:Nat} {f:List α->R},zFG l n f=.ok->n<=l.length/\f (l.drop n)=.ok:=by
 induction l with
 |nil=>
  intro n f h;cases n with
  |zero=>exact⟨rG _,h⟩
  |succ n=>cases h
 |cons a l ih=>
  intro n f h;cases n with
  |zero=>exact⟨rF _,h⟩
  |succ n=>obtain⟨h1,h2⟩:=ih (n:=n) (f:=f) h;exact⟨by simpa using h1,by simpa using h2⟩
theorem q5 {α:Type} {l r:List α}:∀ {f:List α->R},zCy l r f=f (l++r):=by
 induction l with
 |nil=>intro f;rfl
 |cons a l ih=>intro f;exact ih (f:=fun l=>f (a::l))
def over {α:Type} (xs l:List α):List α:=xs++l.drop xs.length
theorem zJN {α:Type} {xs:List α}:∀ {l:List α} {f:List α->R},zNq xs l f=.ok->xs.length<=l.length/\f (over xs l)=.ok:=by
 induction xs with
 |nil=>intro l f h;exact⟨rF _,h⟩
 |cons x xs ih=>
  intro l f h;cases l with
  |nil=>cases h
  |cons a l=>
   obtain⟨h1,h2⟩:=ih (l:=l) (f:=fun l=>f (x::l)) h;exact⟨by simpa using h1,by simpa[over] using h2⟩
def splice {α:Type} (l:List α) (n:Nat) (xs:List α):List α:=l.take n++over xs (l.drop n)
theorem zAD {α:Type} {xs:List α} {l:List α}:∀ {n:Nat} {f:List α->R},pM l n xs f=.ok->n+xs.length<=l.length/\f (splice l n xs)=.ok:=by
 induction l with
 |nil=>
  intro n f h;cases n with
  |zero=>obtain⟨h1,h2⟩:=zJN (l:=[]) (f:=f) h;exact⟨by simpa using h1,by simpa[splice] using h2⟩
  |succ n=>cases h
 |cons a l ih=>
  intro n f h;cases n with
  |zero=>obtain⟨h1,h2⟩:=zJN (l:=a::l) (f:=f) h;exact⟨by simpa using h1,by simpa[splice] using h2⟩
  |succ n=>
   obtain⟨h1,h2⟩:=ih (n:=n) (f:=fun l=>f (a::l)) h;exact⟨by simp at h1 ⊢;omega,by simpa[splice] using h2⟩
theorem zAI {α:Type} {l:List α}{n:Nat} {xs:List α} (h:n+xs.length<=l.length):(splice l n xs).length=l.length:=by
 simp[splice,over];omega
theorem p5 {α:Type} {l:List α}{n:Nat} {xs:List α} (h:n+xs.length<=l.length) (i:Nat):
  (splice l n xs)[i]? =if n<=i/\i<n+xs.length then xs[i - n]? else l[i]? :=by
 simp only[splice,over];rw[List.getElem?_append];simp only[List.length_take];have hn:min n l.length=n:=by omega
 rw[hn];split<;>rename_i h1
 ·rw[if_neg (by omega),rE,if_pos h1]
 ·rw[List.getElem?_append]
  split<;>rename_i h2
  ·rw[if_pos (by omega)]
  ·rw[if_neg (by omega),rC,rC]
   congr 1;omega
theorem xR {α:Type} (l:List α) (f:Nat->R):zAV l f=f l.length:=by
 suffices H:∀(l:List α) (n:Nat),(List.rec (motive:=fun _=>Nat->(Nat->R)->R) (fun n f=>f n) (fun _ _ ih n f=>zS (Nat.succ n) fun n=>ih n f) l n f:R)=f (n+l.length) by
  exact(H l 0).trans (by rw[Nat.zero_add])
 intro l;induction l with
 |nil=>intro n;rfl
 |cons a l ih=>
  intro n;show zS (Nat.succ n) _=_;rw[zN,ih];congr 1;simp;omega
theorem zAt {α:Type} (x:List α) (n:Nat):∀(f:List α->R),zDp x n f=f (List.replicate n x).flatten:=by
 induction n with
 |zero=>intro f;rfl
 |succ n ih=>
  intro f;show zDp x n (fun l=>zCy x l f)=_;rw[ih,q5];simp[List.replicate_succ]
structure Pl where
 blk:Nat
 delta:Nat
 ncap:Nat
 sz:Nat
abbrev Inj:=Nat->Option Pl
def Inj.le (i j:Inj):Prop:=∀b p,i b=some p->j b=some p
theorem Inj.le.refl (i:Inj):i.le i:=fun _ _ h=>h
theorem Inj.le.trans {i j k:Inj} (h:i.le j) (h':j.le k):i.le k:=fun b p hb=>h' b p (h b p hb)
def zAB (ι:Inj):Fn->Option Fn
 | .yield l=>(ι l).map fun p=>.yield p.blk
 |f=>some f
mutual
def conc (ι:Inj):AV->Option Value
 | .bool b=>some (.bool b)
 | .int k n=>some (.int k n)
 | .str s=>some (.string ⟨s.toArray⟩)
 | .ptr b o=>(ι b).map fun p=>.pointer (some ⟨p.blk,p.delta+o,none⟩)
 | .nilp=>some (.pointer none)
 | .sl b o n (some c)=>(ι b).map fun p=>.slice (some ⟨p.blk,p.delta+o,none⟩) n c
 | .sl b o n none=>(ι b).bind fun p=>if n+o / p.sz<=p.ncap then some (.slice (some ⟨p.blk,p.delta+o,none⟩) n (p.ncap - o / p.sz)) else none
 | .nils=>some (.slice none 0 0)
 | .mp b=>(ι b).map fun p=>.map (some p.blk)
 | .nilm=>some (.map none)
 | .fn f a c=>(zAB ι f).bind fun f=>(concL ι a).bind fun a=>(concL ι c).map fun c=>.func f a.toArray c.toArray
 | .nilf=>some .nilFunc
 | .ifc t v=>(conc ι v).map (.iface t)
 | .nili=>some .nilIface
 | .agg cs=>(concL ι cs).map fun l=>.agg l.toArray
 | .tup vs=>(concL ι vs).map fun l=>.tuple l.toArray
 | .dead b o l d=>(ι b).map fun p=>.slice (some (if p.ncap - o / p.sz=l then⟨p.blk,p.delta+o,none⟩ else⟨p.blk,p.delta+(o+d),none⟩)) 0 (p.ncap - o / p.sz - l)
def concL (ι:Inj):List AV->Option (List Value)
 |[]=>some []
 |v::vs=>(conc ι v).bind fun a=>(concL ι vs).map fun l=>a::l
end
theorem zJe {ι ι':Inj} (h:ι.le ι'){f:Fn}{g:Fn} (hc:zAB ι f=some g):zAB ι' f=some g:=by
 cases f<;>simp only[zAB] at hc ⊢ <;>try exact hc
 rw[rA] at hc ⊢;obtain⟨p,hp,e⟩:=hc;exact⟨p,h _ _ hp,e⟩
mutual
theorem qN {ι ι':Inj} (h:ι.le ι'):∀ {v:AV} {V:Value},conc ι v=some V->conc ι' v=some V
 | .bool _,V,hc| .int _ _,V,hc| .str _,V,hc| .nilp,V,hc| .nils,V,hc| .nilm,V,hc| .nilf,V,hc| .nili,V,hc=>hc
 | .ptr b o,V,hc| .sl b o n (some c),V,hc| .mp b,V,hc| .dead b o _ _,V,hc=>by
  simp only[conc,rA] at hc ⊢;obtain⟨p,hp,e⟩:=hc;exact⟨p,h _ _ hp,e⟩
 | .sl b o n none,V,hc=>by
  simp only[conc,rB] at hc ⊢;obtain⟨p,hp,e⟩:=hc;exact⟨p,h _ _ hp,e⟩
 | .fn f a c,V,hc=>by
  simp only[conc,rB,rA] at hc ⊢;obtain⟨f',hf,a',ha,c',hc,e⟩:=hc;exact⟨f',zJe h hf,a',vU h ha,c',vU h hc,e⟩
 | .ifc t v,V,hc=>by
  simp only[conc,rA] at hc ⊢;obtain⟨p,hp,e⟩:=hc;exact⟨p,qN h hp,e⟩
 | .agg cs,V,hc| .tup cs,V,hc=>by
  simp only[conc,rA] at hc ⊢;obtain⟨p,hp,e⟩:=hc;exact⟨p,vU h hp,e⟩
theorem vU {ι ι':Inj} (h:ι.le ι'):∀ {l:List AV} {L:List Value},concL ι l=some L->concL ι' l=some L
 |[],L,hc=>hc
 |v::vs,L,hc=>by
  simp only[concL,rB,rA] at hc ⊢;obtain⟨a,ha,l,hl,e⟩:=hc;exact⟨a,qN h ha,l,vU h hl,e⟩
end
theorem zG {ι:Inj}:∀ {l:List AV} {L:List Value},concL ι l=some L->L.length=l.length
 |[],L,h=>by simp[concL] at h;simp[h]
 |v::vs,L,h=>by
  simp only[concL,rB,rA] at h;obtain⟨a,_,l,hl,rfl⟩:=h;simp[zG hl]
theorem vI {ι:Inj}:∀ {l:List AV} {L:List Value},concL ι l=some L->∀ {i:Nat} {v:AV},l[i]? =some v->∃V,conc ι v=some V/\L[i]? =some V
 |[],L,h,i,v,hv=>by simp at hv
 |a::vs,L,h,i,v,hv=>by
  simp only[concL,rB,rA] at h;obtain⟨A,ha,l,hl,rfl⟩:=h;cases i with
  |zero=>simp at hv;subst hv;exact⟨A,ha,by simp⟩
  |succ i=>simpa using vI hl (by simpa using hv)
theorem zER {ι:Inj}:∀ {l:List AV} {L:List Value},l.length=L.length->(∀(i:Nat) (v:AV),l[i]? =some v->∃V,conc ι v=some V/\L[i]? =some V)->concL ι l=some L
 |[],L,h,_=>by
  have:L=[]:=List.length_eq_zero_iff.1 (by simpa using h.symm);simp[concL,this]
 |a::vs,[],h,_=>by simp at h
 |a::vs,A::L,h,hg=>by
  obtain⟨V,h1,h2⟩:=hg 0 a (by simp);have hl:=zER (l:=vs) (L:=L) (by simpa using h) fun i v hv=>by
   obtain⟨W,h3,h4⟩:=hg (i+1) v (by simpa using hv);exact⟨W,h3,by simpa using h4⟩
  simp at h2;subst h2;simp[concL,h1,hl]
theorem yC {ι:Inj}:∀ {l r:List AV} {L R:List Value},concL ι l=some L->concL ι r=some R->concL ι (l++r)=some (L++R)
 |[],r,L,R,h,h'=>by simp[concL] at h;subst h;simpa using h'
 |a::vs,r,L,R,h,h'=>by
  simp only[concL,rB,rA] at h;obtain⟨A,ha,l,hl,rfl⟩:=h;simp only[List.cons_append,concL,rB,rA];exact⟨A,ha,_,yC hl h',rfl⟩
theorem pC {ι:Inj}{l:List AV} (h:concL ι l=some L) (n:Nat):concL ι (l.take n)=some (L.take n):=by
 refine zER (by simp[zG h]) fun i v hv=>?_
 rw[rE] at hv;split at hv
 ·obtain⟨V,h1,h2⟩:=vI h hv
  exact⟨V,h1,by rw[rE,if_pos ‹_›];exact h2⟩
 ·cases hv
theorem q8 {ι:Inj}{l:List AV} (h:concL ι l=some L) (n:Nat):concL ι (l.drop n)=some (L.drop n):=by
 refine zER (by simp[zG h]) fun i v hv=>?_
 rw[rC] at hv;obtain⟨V,h1,h2⟩:=vI h hv;exact⟨V,h1,by rw[rC];exact h2⟩
theorem xO {ι:Inj}{v:AV}{V:Value} (h:conc ι v=some V):concL ι v.cells=some V.cells.toList:=by
 cases v with
 |agg cs=>
  simp only[conc,rA] at h;obtain⟨l,hl,rfl⟩:=h
  simpa[AV.cells,Value.cells] using hl
 |sl b o n c=>
  have hV:V.cells= #[V]:=by
   cases c with
   |some c=>simp only[conc,rA] at h;obtain⟨_,_,rfl⟩:=h;rfl
   |none=>
    simp only[conc,rB] at h;obtain⟨_,_,h⟩:=h;split at h
    ·injection h with h;subst h;rfl
    ·cases h
  simp[AV.cells,concL,h,hV]
 |fn f a c=>
  have hV:V.cells= #[V]:=by
   simp only[conc,rA,rB] at h;obtain⟨_,_,_,_,_,_,rfl⟩:=h;rfl
  simp[AV.cells,concL,h,hV]
 |ptr b o|mp b|ifc t v|tup vs|dead b o l d=>
  have hV:V.cells= #[V]:=by
   simp only[conc,rA] at h;obtain⟨_,_,rfl⟩:=h;rfl
  simp[AV.cells,concL,h,hV]
 |_=>
  have hV:V.cells= #[V]:=by
   simp only[conc,Option.some.injEq] at h;subst h;rfl
  simp[AV.cells,concL,h,hV]
