/- The law ProofResiduals: for every input it hands back true, and its arguments read as before. -/
import Derived.Test.YtckdgniecdfedaaGreatDoorRzR
namespace Go.Proofs.YtckdgniecdfedaaGreatDoor
open Go.ChangeShapes Go.WideShapes Go.ChangeAt Go.RowKit Go.AM
set_option maxRecDepth 100000 in
theorem trod_one {H:Type} {enc:TypeId×Value→H} {W:World} {t e:TypeId} (ht:Tryz.prog.underlying t=some (.slice e)) {base:Nat} {v:Value} {d:DataW H} {p:List MemPlace} (hok:Value.okWide Tryz.prog W .any base t v) (h:DataW.Trod enc Tryz.prog W 0 (fun _=>true) true t v d p):
  ∃m,DataW.trod enc Tryz.prog W 0 (fun _=>true) true m t [v]=some (d,p):=by
 obtain⟨a,len,cap,rfl⟩:=okWide_slice ht hok
 obtain⟨fuel,hf⟩:=h
 exact⟨fuel,by simpa[Value.cells] using hf⟩
set_option maxRecDepth 100000 in
theorem residuals_lifted (os:Os) (started:os.Started) (H:Type) (enc:TypeId×Value→H):
  ReturnsInHanded {} Tryz.checked os 6 .any (fun w args=>(Rows.proofResidualsSpec.pre enc Tryz.prog Tryz.f6 [] false w args∧laidMetH Tryz.prog laid7 w)∧sizedMet enc Tryz.prog Tryz.f6 (OpenSpec.ofChange Rows.proofResidualsSpec) false w args)
   (Rows.proofResidualsSpec.post enc Tryz.prog Tryz.f6 false true false false):=by
 refine returnsInHanded_of_change_and (C:=Tryz.checked) (X:=fun w _=>laidMetH Tryz.prog laid7 w) (fun _ _ _ hh h=>h.of_heap hh) Tryz.own started (by kernel_rfl) Tryz.func6
  (ChangeSpec.witness_shaped (enc:=enc) (C:=Tryz.checked) (os:=os) (X:=fun w _=>laidMetH Tryz.prog laid7 w) false (World.laidAll Tryz.prog os laid7) #[.slice none 0 0,.agg #[.int .i64 0,.string ⟨#[]⟩,.int .i64 0,.int .i64 0,.slice none 0 0],.slice none 0 0] 8 (World.laidAll_os _ _ _)
   (World.shaped_of_ZipB (by kernel_rfl) (by kernel_rfl)) (by kernel_rfl) (by kernel_rfl) (by kernel_rfl)
   (by rw[MakeChecks.laidMetH_plain _ _ _ (by kernel_rfl)];exact laidMet_laidAll _ (by kernel_rfl) (by kernel_rfl))) ?_
 intro W base args ds gs before hval0 hW _ _ hL _
 have hval:∀(j:Nat) t v,Tryz.f6.params[j]? =some t→args[j]? =some v→Value.okWide Tryz.prog W .any base t v:=hval0
 have hW':=hW
 obtain⟨p,q,hA0,hV,rfl,_,_⟩:=hW
 have hA:DataW.TrodAll enc Tryz.prog W 0 (fun _=>true) true Tryz.f6.params.toList args.toList ds p:=hA0
 rw[Tryz.params6] at hA hval
 obtain⟨v0,v1,v2,d0,d1,d2,p0,p1,p2,rfl,rfl,rfl,h0,h1,h2⟩:=trodAll_three hA
 obtain⟨rfl,rfl⟩:=trodVars_none hV
 simp only[List.append_nil] at hW'
 have hlt:∀x∈p0++(p1++p2),x.block<W.heap.size:=fun x hx=>by simpa using hW'.lt x (by simpa using hx)
 have lt0:∀x∈p0,x.block<W.heap.size:=fun x hx=>hlt x (by simp[hx])
 have lt1:∀x∈p1,x.block<W.heap.size:=fun x hx=>hlt x (by simp[hx])
 have lt2:∀x∈p2,x.block<W.heap.size:=fun x hx=>hlt x (by simp[hx])
 obtain⟨fs,hu⟩:=Tryz.struct48
 obtain⟨x,rfl,hx⟩:=open_formula hu (hval 1 48 v1 rfl rfl) h1 lt1
 obtain⟨m0,g0⟩:=trod_one Tryz.slice45 (hval 0 45 v0 rfl rfl) h0
 obtain⟨m2,g2⟩:=trod_one Tryz.slice25 (hval 2 25 v2 rfl rfl) h2
 obtain⟨a0,c0,l,rfl,n0⟩:=leaf_sigs g0 lt0
 obtain⟨a2,c2,ls,rfl,n2,b2⟩:=leaf_nums g2 lt2
 rw[MakeChecks.laidMetH_plain _ _ _ (by kernel_rfl)] at hL
 have key:=residuals_any W (fun w' hB=>head_later hL hB) ⟨n0,forms_of hL,keys_of hL⟩ hx n2 b2
 refine key.mono fun e W' ⟨he,hB⟩=>?_
 subst he
 have r0:=Below.trod Tryz.laidOut (by kernel_rfl) (of_decide_eq_true (by kernel_rfl)) h0 hB lt0
 have r1:=Below.trod Tryz.laidOut (by kernel_rfl) (of_decide_eq_true (by kernel_rfl)) h1 hB lt1
 have r2:=Below.trod Tryz.laidOut (by kernel_rfl) (of_decide_eq_true (by kernel_rfl)) h2 hB lt2
 exact⟨_,rfl,_,_,_,[],_,[],hW',trodAll_mk1 (shut_bool Tryz.underlying4 _),trodAll_mk3 r0 r1 r2,rfl,hB.frame _,fun h=>by cases h⟩
end Go.Proofs.YtckdgniecdfedaaGreatDoor
