/- The law JudgeRejects: for every input it hands back true, and its arguments read as before. -/
import Derived.Test.YtmabhhngoklncaaGreatDoorXF
import Derived.Lay
import Derived.MakeChecks
set_option maxRecDepth 100000
set_option maxHeartbeats 40000000
set_option linter.all false
open Go.Proofs.Tryz renaming prog->rA
open Go.Value renaming int->jI,slice->jS,agg->jG
open Go.IntKind renaming i64->kQ,u16->kU
open Go Go.ChangeShapes Go.WideShapes Go.AM Go.ChangeAt Go.RowKit
namespace Go.Proofs.YtmabhhngoklncaaGreatDoor
theorem Tryz.own:ownKnob Tryz.prog.godebug=none:=by kernel_rfl
theorem Tryz.laidOut:laidOutB rA=true:=by kernel_rfl
theorem zGJ (os:Os) (started:os.Started) (H:Type) (enc:TypeId×Value->H):
  ReturnsInHanded {} Tryz.checked os 3 .any (fun w args=>(Rows.judgeRejectsSpec.pre enc rA Tryz.f3 [] false w args/\laidMetH rA zAo w)/\sizedMet enc rA Tryz.f3 (OpenSpec.ofChange Rows.judgeRejectsSpec) false w args)
   (Rows.judgeRejectsSpec.post enc rA Tryz.f3 false true false false):=by
 refine returnsInHanded_of_change_and (C:=Tryz.checked) (X:=fun w _=>laidMetH rA zAo w) (fun _ _ _ hh h=>h.of_heap hh) Tryz.own started (by kernel_rfl) Tryz.func3
  (ChangeSpec.witness_shaped (enc:=enc) (C:=Tryz.checked) (os:=os) (X:=fun w _=>laidMetH rA zAo w) false (World.laidAll rA os zAo) #[jG #[jS none 0 0,jI kQ 0],jI kU 0,jI kQ 0] 4 (World.laidAll_os _ _ _)
   (World.shaped_of_ZipB (by kernel_rfl) (by kernel_rfl)) (by kernel_rfl) (by kernel_rfl) (by kernel_rfl)
   (by rw[MakeChecks.laidMetH_plain _ _ _ (by kernel_rfl)];exact laidMet_laidAll _ (by kernel_rfl) (by kernel_rfl))) ?_
 intro W base args ds gs before hval0 hW _ _ hL _;have hval:∀(j:Nat) t v,Tryz.f3.params[j]? =some t->args[j]? =some v->Value.okWide rA W .any base t v:=hval0;have hW':=hW;obtain⟨p,q,hA0,hV,rfl,_,_⟩:=hW;have hA:DataW.TrodAll enc rA W 0 (fun _=>true) true Tryz.f3.params.toList args.toList ds p:=hA0;rw[Tryz.params3] at hA hval;obtain⟨v0,v1,v2,d0,d1,d2,p0,p1,p2,rfl,rfl,rfl,h0,h1,h2⟩:=trodAll_three hA;obtain⟨rfl,rfl⟩:=trodVars_none hV;obtain⟨raw0,rfl,rfl,rfl,w1⟩:=open_int Tryz.underlying25 (hval 1 25 v1 rfl rfl) h1;obtain⟨n,rfl,rfl,rfl,w2⟩:=open_int Tryz.underlying3 (hval 2 3 v2 rfl rfl) h2;simp only[List.append_nil] at hW';have lt0:∀x∈p0,x.block<W.heap.size:=fun x hx=>by simpa using hW'.lt x (by simpa using hx)
 obtain⟨fs,hu⟩:=Tryz.struct24;obtain⟨a,c,l,s,rfl,n0,b0,c0⟩:=zMf hu (hval 0 24 v0 rfl rfl) h0 lt0;obtain⟨raw,rfl,hraw⟩:∃raw:Nat,raw0=raw/\raw<65536:=by
  simp only[Lit.wf,Bool.and_eq_true,decide_eq_true_eq] at w1;have e1:IntKind.u16.min=0:=rfl;have e2:IntKind.u16.max=65535:=rfl;exact⟨raw0.toNat,by omega,by omega⟩
 rw[MakeChecks.laidMetH_plain _ _ _ (by kernel_rfl)] at hL;have key:=zKB (s:=s) zNe zNS zNl zOT W (fun w' hB=>zLG hL hB) n0 b0 c0 raw hraw n;refine key.mono fun e W' ⟨he,hB⟩=>?_
 subst he;have r0:=Below.trod Tryz.laidOut (by kernel_rfl) (of_decide_eq_true (by kernel_rfl)) h0 hB lt0;exact⟨_,rfl,_,_,_,[],_,[],hW',trodAll_mk1 (shut_bool Tryz.underlying4 _),trodAll_mk3 r0 (shut_int Tryz.underlying25 w1) (shut_int Tryz.underlying3 w2),rfl,hB.frame _,fun h=>by cases h⟩
end Go.Proofs.YtmabhhngoklncaaGreatDoor
