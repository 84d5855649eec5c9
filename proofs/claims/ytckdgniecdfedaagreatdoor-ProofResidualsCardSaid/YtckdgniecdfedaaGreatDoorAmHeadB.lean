/- The function head hands back true and leaves the memory below as it was. -/
import Derived.Test.YtckdgniecdfedaaGreatDoorAmHeadA
import Derived.Test.YtckdgniecdfedaaGreatDoorAmP0
import Derived.Test.YtckdgniecdfedaaGreatDoorAmP1
import Derived.Test.YtckdgniecdfedaaGreatDoorAmP2
import Derived.Test.YtckdgniecdfedaaGreatDoorAmP3
import Derived.Test.YtckdgniecdfedaaGreatDoorAmP4
import Derived.Test.YtckdgniecdfedaaGreatDoorAmOrdP
section
open Go Go.AM Go.Proofs Go.Proofs.YtckdgniecdfedaaGreatDoor
namespace Go.AM
theorem ng8:Nat.ble 8 Tryz.prog.globals.size=true:=by kernel_rfl
theorem start_snap {ι:Inj} {w:World} (hr:Rel Tryz.prog ι ⟨8,t0⟩ w) {fn:Func} (hn:fn.ntmps=228):
  SnapSt Tryz.prog (funcMask fn) ι ⟨8,t0⟩ w snap0 ι {tmps:=(#[]:Array Value)++Array.replicate (fn.ntmps - (#[]:Array Value).size) undef,defers:=[]} w:=by
 intro log t hl ht
 refine⟨Step.forget hr fun b x hx=>t0_has b x (ht b x hx),⟨?_,Nat.le_of_ble_eq_true ng8,fun k x hx=>by simp[T.find] at hx,fun k x hx=>?_⟩,trivial⟩
 ·simp[hn,snap0]
 ·simp only[Fr.find,T.find,Option.or_none] at hx
  have:=hl k x hx
  simp[snap0] at this
theorem head_calls (hflat:∀t∈flats,Flat Tryz.prog t) {ι:Inj} {w:World} (hr:Rel Tryz.prog ι ⟨8,t0⟩ w):Calls Tryz.prog 8 #[] w (Ret Tryz.prog ι ⟨8,t0⟩ w (fun v _=>isTrue v)):=by
 obtain⟨fn,b,hf,hb,hrow,hn⟩:=head_fn
 have hP:PieceOk Tryz.prog flats orders:=⟨numOk,mixedOk,hflat,ordsB_ok ordsOk⟩
 have row:∀(p q:Nat) (c:Code),rowB (p+q) c=true→rowB p c=true:=by
  intro p
  induction p with
  |zero=>intro q c _;rfl
  |succ p ih=>
   intro q c h
   rw[show p+1+q=(p+q)+1 by omega] at h
   cases c<;>first|(cases h;done)|exact ih q _ h
 refine callsIn_wide.1 (show CallsIn Fence.wide 0 _ _ _ _ _ from callsIn_of_wp_marks hf hb trivial ?_)
 refine cut_step hP hf hb (start:=0) (len:=9) (row 9 9 b hrow) piece0 (start_snap hr hn) fun ι a w h1=>?_
 refine cut_step hP hf hb (start:=9) (len:=1) (row 10 8 b hrow) piece1 h1 fun ι a w h2=>?_
 refine cut_step hP hf hb (start:=10) (len:=2) (row 12 6 b hrow) piece2 h2 fun ι a w h3=>?_
 refine cut_step hP hf hb (start:=12) (len:=6) hrow piece3 h3 fun ι a w h4=>?_
 exact last_step hP hf hb hrow piece4 h4
end Go.AM
end
