/- One operation of a drawn region is taken. -/
import Derived.Test.YtmabhhngoklncaaGreatDoorG
set_option maxRecDepth 100000
set_option maxHeartbeats 40000000
set_option linter.all false
open Go
namespace Go.Proofs.YtmabhhngoklncaaGreatDoor
theorem sG:(∀ {α:Type} {l:List α} {i:Nat},l.toArray[i]? =l[i]?)/\(∀ {α:Type} {x:α} {l:List α},(x::l)[0]? =some x)/\∀ {α:Type} {x:α} {l:List α} {i:Nat},(x::l)[i+1]? =l[i]? :=⟨List.getElem?_toArray,List.getElem?_cons_zero,List.getElem?_cons_succ⟩
section
variable {P:Program} {md:Region.Mode} {ops:Array Oper} {Q:Exit->Act->World->Prop} {S:World->Prop} {oi:Oper} {fuel d:Nat} {listed l':Array Bool} {a a':Act} {w:World} (i:Nat) (v:Value)
theorem tka (hy:∀w:World,S w->(execOp a.eval oi).run P w=.ok (.value v) w) (h:wpAnyH P md ops Q S fuel l' a' w) (hS:S w:=by assumption) (hi:ops[i]? =some oi:=by simp only[sG];rfl) (hd:oi.dst=some d:=by rfl)
  (hl:listed.setIfInBounds i true=l':=by(try simp only[sA]);rfl) (ha:a.put (some d) v=a':=by simp only[sA];rfl) (hw:Region.wanted oi (yielded ops a.tmps)=true:=by first|rfl|kernel_rfl)
  (hk:(Region.noSelect ops&&Region.free md ops listed i&&(Region.ready md ops listed).contains i)=true:=by kernel_rfl) (hQ:∀c a w,Q (.panic c) (a.put oi.dst v) w->Q (.panic c) a w:=by exact fun _ _ _ h=>h):wpAnyH P md ops Q S (fuel+1) listed a w:=by
 simp only[Bool.and_eq_true] at hk;subst hl ha;exact wpAnyH_take hi hk.1.1 hk.1.2 hk.2 hQ (Or.inl ⟨hw,hy⟩) hS (by rw[hd];exact h)
theorem tKa (h:wpAnyH P md ops Q S fuel l' a' w) (hS:S w:=by assumption) (hi:ops[i]? =some oi:=by simp only[sG];rfl) (hd:oi.dst=some d:=by rfl) (hy:∀w:World,S w->(execOp a.eval oi).run P w=.ok (.value v) w:=by intro V hV;(try dsimp only at hV);go_simp)
  (hl:listed.setIfInBounds i true=l':=by(try simp only[sA]);rfl) (ha:a.put (some d) v=a':=by simp only[sA];rfl) (hw:Region.wanted oi (yielded ops a.tmps)=true:=by first|rfl|kernel_rfl)
  (hk:(Region.noSelect ops&&Region.free md ops listed i&&(Region.ready md ops listed).contains i)=true:=by kernel_rfl) (hQ:∀c a w,Q (.panic c) (a.put oi.dst v) w->Q (.panic c) a w:=by exact fun _ _ _ h=>h):wpAnyH P md ops Q S (fuel+1) listed a w:=
 tka i v hy h hS hi hd hl ha hw hk hQ
theorem tna (h:wpAnyH P md ops Q S fuel l' a' w) (hS:S w:=by assumption) (hi:ops[i]? =some oi:=by simp only[sG];rfl) (hd:oi.dst=some d:=by rfl)
  (hl:listed.setIfInBounds i true=l':=by(try simp only[sA]);rfl) (ha:a.put (some d) undef=a':=by simp only[sA];rfl) (hw:Region.wanted oi (yielded ops a.tmps)=false:=by kernel_rfl)
  (hk:(Region.noSelect ops&&Region.free md ops listed i&&(Region.ready md ops listed).contains i)=true:=by kernel_rfl) (hQ:∀c a w,Q (.panic c) (a.put oi.dst undef) w->Q (.panic c) a w:=by exact fun _ _ _ h=>h):wpAnyH P md ops Q S (fuel+1) listed a w:=by
 simp only[Bool.and_eq_true] at hk;subst hl ha;exact wpAnyH_take hi hk.1.1 hk.1.2 hk.2 hQ (Or.inr ⟨hw,rfl⟩) hS (by rw[hd];exact h)
theorem tya (h:∀K':Act->World->Prop,Shut (∀a w,S w->(S w->wpAnyH P md ops Q S fuel (listed.setIfInBounds i true) a w)->K' a w)->if Region.wanted oi (yielded ops a.tmps)=true then Oper.wp P oi a w K' Q else K' (a.put oi.dst undef) w)
  (hi:ops[i]? =some oi:=by simp only[sG];rfl) (hr:Region.ready md ops listed=[i]:=by kernel_rfl):wpAnyH P md ops Q S (fuel+1) listed a w:=wpAnyH_ready hr (by simp) (AllReadyH.cons hi h AllReadyH.nil)
end
