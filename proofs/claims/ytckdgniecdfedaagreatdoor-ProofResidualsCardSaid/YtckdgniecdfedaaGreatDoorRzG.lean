/- The residual of a formula's canonical form is that of the formula. The residual of a formula's canonical form is that of the formula: the law. Sizes and depths of formulas, of their canonical forms an -/
import Derived.Test.YtckdgniecdfedaaGreatDoorRzF
import Derived.Deep.AppendSrc
namespace Go.Proofs.YtckdgniecdfedaaGreatDoor
section
def mkNext:Wf→Wf
 | .tt=>.tt
 | .ff=>.ff
 |a=>.next a
def mkUnt:Wf→Wf→Wf
 |_,.tt=>.tt
 |_,.ff=>.ff
 | .ff,b=>b
 |a,b=>.unt a b
def mkRel:Wf→Wf→Wf
 |_,.tt=>.tt
 |_,.ff=>.ff
 | .tt,b=>b
 |a,b=>.rel a b
section
variable (O:Lt)
mutual
noncomputable def canon:Wf→Wf
 | .tt=>.tt
 | .ff=>.ff
 | .is nm v=>.is nm v
 | .nis nm v=>.nis nm v
 | .con k l=>J O k (canons l)
 | .next a=>mkNext (canon a)
 | .unt a b=>mkUnt (canon a) (canon b)
 | .rel a b=>mkRel (canon a) (canon b)
 | .yes v a=>.yes v (canon a)
 | .snc k v a b=>.snc k v (canon a) (canon b)
noncomputable def canons:List Wf→List Wf
 |[]=>[]
 |x::l=>canon x::canons l
end
end
section
variable (ρ:ByteArray→Int→Bool)
mutual
def now:Wf→Bool
 | .tt=>true
 | .ff=>false
 | .is nm v=>ρ nm v
 | .nis nm v=>!ρ nm v
 | .con k l=>if k then nowAll l else nowAny l
 | .next _=>false
 | .unt _ _=>false
 | .rel _ _=>false
 | .yes v _=>v
 | .snc k v a b=>if k then now b||(v&&now a) else now b&&(v||now a)
def nowAll:List Wf→Bool
 |[]=>true
 |x::l=>now x&&nowAll l
def nowAny:List Wf→Bool
 |[]=>false
 |x::l=>now x||nowAny l
end
mutual
def aged:Wf→Wf
 | .tt=>.tt
 | .ff=>.ff
 | .is nm v=>.is nm v
 | .nis nm v=>.nis nm v
 | .con k l=>.con k (ageds l)
 | .next a=>.next (aged a)
 | .unt a b=>.unt (aged a) (aged b)
 | .rel a b=>.rel (aged a) (aged b)
 | .yes _ a=>.yes (now ρ a) (aged a)
 | .snc k v a b=>.snc k (if k then now ρ b||(v&&now ρ a) else now ρ b&&(v||now ρ a)) (aged a) (aged b)
def ageds:List Wf→List Wf
 |[]=>[]
 |x::l=>aged x::ageds l
end
end
mutual
def past:Wf→Bool
 | .con _ l=>pasts l
 | .next _=>false
 | .unt _ _=>false
 | .rel _ _=>false
 | .yes _ a=>past a
 | .snc _ _ a b=>past a&&past b
 |_=>true
def pasts:List Wf→Bool
 |[]=>true
 |x::l=>past x&&pasts l
end
def cst (b:Bool):Wf:=if b then .tt else .ff
section
variable (ρ:ByteArray→Int→Bool)
mutual
def raw:Wf→Wf
 | .tt=>.tt
 | .ff=>.ff
 | .is nm v=>cst (ρ nm v)
 | .nis nm v=>cst (!ρ nm v)
 | .con k l=>if pasts l then cst (now ρ (.con k l)) else .con k (raws l)
 | .next a=>aged ρ a
 | .unt a b=>.con false [raw b,.con true [raw a,aged ρ (.unt a b)]]
 | .rel a b=>.con true [raw b,.con false [raw a,aged ρ (.rel a b)]]
 | .yes v _=>cst v
 | .snc k v a b=>cst (now ρ (.snc k v a b))
def raws:List Wf→List Wf
 |[]=>[]
 |x::l=>raw x::raws l
end
mutual
def ok:Wf→Bool
 | .con _ l=>oks l
 | .next a=>ok a
 | .unt a b=>ok a&&ok b
 | .rel a b=>ok a&&ok b
 | .yes _ a=>past a&&ok a
 | .snc _ _ a b=>past a&&past b&&ok a&&ok b
 |_=>true
def oks:List Wf→Bool
 |[]=>true
 |x::l=>ok x&&oks l
end
theorem canons_map (O:Lt):∀l,canons O l=l.map (canon O)
 |[]=>by simp[canons]
 |x::l=>by simp[canons,canons_map O l]
theorem ageds_map:∀l,ageds ρ l=l.map (aged ρ)
 |[]=>by simp[ageds]
 |x::l=>by simp[ageds,ageds_map l]
theorem raws_map:∀l,raws ρ l=l.map (raw ρ)
 |[]=>by simp[raws]
 |x::l=>by simp[raws,raws_map l]
theorem pasts_all:∀l,pasts l=true↔∀x∈l,past x=true
 |[]=>by simp[pasts]
 |x::l=>by simp[pasts,pasts_all l]
theorem oks_all:∀l,oks l=true↔∀x∈l,ok x=true
 |[]=>by simp[oks]
 |x::l=>by simp[oks,oks_all l]
theorem nowAll_all:∀l,nowAll ρ l=true↔∀x∈l,now ρ x=true
 |[]=>by simp[nowAll]
 |x::l=>by simp[nowAll,nowAll_all l]
theorem nowAny_any:∀l,nowAny ρ l=true↔∃x∈l,now ρ x=true
 |[]=>by simp[nowAny]
 |x::l=>by simp[nowAny,nowAny_any l]
variable (O:Lt)
theorem canon_cst (b:Bool):canon O (cst b)=cst b:=by cases b<;>simp[cst,canon]
theorem canon_nf (f:Wf):Nf O (canon O f):=by
 induction f using Wf.ind with
 |h1=>rw[canon];exact .tt
 |h2=>rw[canon];exact .ff
 |h3 nm v=>rw[canon];exact .is nm v
 |h4 nm v=>rw[canon];exact .nis nm v
 |h5 k l ih=>
  rw[canon,canons_map]
  exact J_nf O fun y hy=>by obtain⟨x,hx,rfl⟩:=List.mem_map.1 hy;exact ih x hx
 |h6 a ih=>
  rw[canon]
  cases h:canon O a<;>simp only[mkNext]<;>first|exact .tt|exact .ff|exact .next _
 |h7 a b iha ihb=>
  rw[canon]
  cases hb:canon O b<;>cases ha:canon O a<;>simp only[mkUnt]<;>first|exact .tt|exact .ff|exact .unt _ _|(rw[←hb];exact ihb)
 |h8 a b iha ihb=>
  rw[canon]
  cases hb:canon O b<;>cases ha:canon O a<;>simp only[mkRel]<;>first|exact .tt|exact .ff|exact .rel _ _|(rw[←hb];exact ihb)
 |h9 v a _=>rw[canon];exact .yes _ _
 |h10 k v a b _ _=>rw[canon];exact .snc _ _ _ _
theorem J_csts (k:Bool) (l:List Bool):J O k (l.map cst)=cst (if k then l.all id else l.any id):=by
 by_cases hz:(!k)∈l
 ·have h1:zero k∈parts k (l.map cst):=by
   refine List.mem_flatMap.2 ⟨zero k,List.mem_map.2 ⟨!k,hz,by cases k<;>rfl⟩,by cases k<;>simp[flat,zero]⟩
  unfold J
  rw[build_zero O (.inl h1)]
  cases k with
  |true=>
   have:l.all id=false:=by
    rw[List.all_eq_false]
    exact⟨false,hz,by simp⟩
   simp[zero,cst,this]
  |false=>
   have:l.any id=true:=List.any_eq_true.2 ⟨true,hz,rfl⟩
   simp[zero,cst,this]
 ·have h0:parts k (l.map cst)=[]:=by
   refine List.flatMap_eq_nil_iff.2 fun x hx=>?_
   obtain⟨b,hb,rfl⟩:=List.mem_map.1 hx
   have:b=k:=by
    cases b<;>cases k<;>simp_all
   subst this
   cases b<;>rfl
  unfold J
  rw[h0,build_nil]
  cases k with
  |true=>
   have:l.all id=true:=List.all_eq_true.2 fun b hb=>by
    cases b with
    |true=>rfl
    |false=>exact absurd hb hz
   simp[unit,cst,this]
  |false=>
   have:l.any id=false:=by
    rw[List.any_eq_false]
    intro b hb
    cases b with
    |true=>exact absurd hb hz
    |false=>simp
   simp[unit,cst,this]
theorem raw_past (f:Wf):past f=true→raw ρ f=cst (now ρ f):=by
 cases f with
 |tt=>intro _;simp[raw,now,cst]
 |ff=>intro _;simp[raw,now,cst]
 |is nm v=>intro _;rw[raw,now]
 |nis nm v=>intro _;rw[raw,now]
 |con k l=>intro h;rw[past] at h;rw[raw,if_pos h]
 |next a=>intro h;rw[past] at h;cases h
 |unt a b=>intro h;rw[past] at h;cases h
 |rel a b=>intro h;rw[past] at h;cases h
 |yes v a=>intro _;rw[raw,now]
 |snc k v a b=>intro _;rw[raw]
theorem raw_con (k:Bool) (l:List Wf):canon O (raw ρ (.con k l))=J O k (l.map fun x=>canon O (raw ρ x)):=by
 rw[raw]
 by_cases h:pasts l=true
 ·rw[if_pos h,canon_cst]
  have e:l.map (fun x=>canon O (raw ρ x))=(l.map (now ρ)).map cst:=by
   rw[List.map_map]
   refine List.map_congr_left fun x hx=>?_
   rw[raw_past ρ x ((pasts_all l).1 h x hx),canon_cst]
   rfl
  rw[e,J_csts,now]
  congr 1
  cases k with
  |true=>
   simp only[if_true]
   rw[Bool.eq_iff_iff,nowAll_all,List.all_eq_true]
   simp
  |false=>
   simp only[Bool.false_eq_true,if_false]
   rw[Bool.eq_iff_iff,nowAny_any,List.any_eq_true]
   simp
 ·rw[if_neg h,canon,canons_map,raws_map,List.map_map]
  rfl
theorem homG:Hom O (fun f=>canon O (aged ρ f)) where
 con k l:=by
  show canon O (aged ρ (.con k l))=_
  rw[aged,canon,canons_map,ageds_map,List.map_map]
  rfl
 tt:=by show canon O (aged ρ .tt)=_;rw[aged,canon]
 ff:=by show canon O (aged ρ .ff)=_;rw[aged,canon]
 opp k nm v M h1 h2:=by
  simp only[aged,canon] at h1 h2
  refine build_zero O (.inr ⟨nm,v,List.mem_flatMap.2 ⟨_,h1,by simp[flat]⟩,List.mem_flatMap.2 ⟨_,h2,by simp[flat]⟩⟩)
 nf x:=canon_nf O _
theorem homH:Hom O (fun f=>canon O (raw ρ f)) where
 con k l:=raw_con ρ O k l
 tt:=by show canon O (raw ρ .tt)=_;rw[raw,canon]
 ff:=by show canon O (raw ρ .ff)=_;rw[raw,canon]
 opp k nm v M h1 h2:=by
  simp only[raw,canon_cst] at h1 h2
  refine build_zero O (.inl (List.mem_flatMap.2 ⟨zero k,?_,by cases k<;>simp[flat,zero]⟩))
  have e:cst (ρ nm v)=zero k∨cst (!ρ nm v)=zero k:=by cases ρ nm v<;>cases k<;>simp[cst,zero]
  rcases e with e|e
  ·rw[←e];exact h1
  ·rw[←e];exact h2
 nf x:=canon_nf O _
end
end
section
section
variable (O:Lt) (ρ:ByteArray→Int→Bool)
def nowL (k:Bool) (L:List Wf):Prop:=if k then∀x∈L,now ρ x=true else∃x∈L,now ρ x=true
theorem now_con (k:Bool) (l:List Wf):now ρ (.con k l)=true↔nowL ρ k l:=by
 rw[now]
 cases k with
 |true=>simp only[nowL,if_true];exact nowAll_all ρ l
 |false=>simp only[nowL,Bool.false_eq_true,if_false];exact nowAny_any ρ l
theorem now_parts (k:Bool) (L:List Wf):nowL ρ k (parts k L)↔nowL ρ k L:=by
 have h:∀x,nowL ρ k (flat k x)↔now ρ x=true:=by
  intro x
  have one:flat k x=[x]→(nowL ρ k (flat k x)↔now ρ x=true):=fun e=>by
   rw[e]
   unfold nowL
   cases k<;>simp
  cases x with
  |con k' l=>
   by_cases e:k'=k
   ·subst e
    have ef:flat k' (.con k' l)=l:=by simp[flat]
    rw[ef]
    exact(now_con ρ k' l).symm
   ·exact one (by simp[flat,e])
  |tt=>cases k with
   |true=>simp[flat,nowL,now]
   |false=>exact one rfl
  |ff=>cases k with
   |true=>exact one rfl
   |false=>simp[flat,nowL,now]
  |is nm v=>exact one rfl
  |nis nm v=>exact one rfl
  |next a=>exact one rfl
  |unt a b=>exact one rfl
  |rel a b=>exact one rfl
  |yes v a=>exact one rfl
  |snc k' v a b=>exact one rfl
 cases k with
 |true=>
  simp only[nowL,if_true] at h ⊢
  constructor
  ·intro h1 x hx
   exact(h x).1 fun y hy=>h1 y (List.mem_flatMap.2 ⟨x,hx,hy⟩)
  ·intro h1 y hy
   obtain⟨x,hx,hy⟩:=List.mem_flatMap.1 hy
   exact(h x).2 (h1 x hx) y hy
 |false=>
  simp only[nowL,Bool.false_eq_true,if_false] at h ⊢
  constructor
  ·rintro⟨y,hy,hn⟩
   obtain⟨x,hx,hy⟩:=List.mem_flatMap.1 hy
   exact⟨x,hx,(h x).1 ⟨y,hy,hn⟩⟩
  ·rintro⟨x,hx,hn⟩
   obtain⟨y,hy,hn⟩:=(h x).2 hn
   exact⟨y,List.mem_flatMap.2 ⟨x,hx,hy⟩,hn⟩
theorem now_J (k:Bool) (L:List Wf):now ρ (J O k L)=true↔nowL ρ k L:=by
 rw[←now_parts]
 unfold J
 generalize parts k L=S
 rcases build_cases O k S with⟨hz,e⟩|⟨_,⟨h0,e⟩|⟨x,hx,hall,e⟩|⟨_,e⟩⟩
 ·rw[e]
  cases k with
  |true=>
   have l:¬(now ρ (zero true)=true):=by simp[zero,now]
   refine⟨fun h=>absurd h l,fun h=>?_⟩
   simp only[nowL,if_true] at h
   rcases hz with hz|⟨nm,v,h1,h2⟩
   ·exact h _ hz
   ·have a:=h _ h1
    have b:=h _ h2
    simp only[now] at a b
    rw[a] at b
    cases b
  |false=>
   have l:now ρ (zero false)=true:=by simp[zero,now]
   refine⟨fun _=>?_,fun _=>l⟩
   simp only[nowL,Bool.false_eq_true,if_false]
   rcases hz with hz|⟨nm,v,h1,h2⟩
   ·exact⟨_,hz,l⟩
   ·cases hr:ρ nm v with
    |true=>exact⟨_,h1,by rw[now,hr]⟩
    |false=>exact⟨_,h2,by rw[now,hr];rfl⟩
 ·subst h0
  rw[e]
  cases k<;>simp[unit,now,nowL]
 ·rw[e]
  cases k with
  |true=>
   simp only[nowL,if_true]
   exact⟨fun h z hz=>by rw[hall z hz];exact h,fun h=>h x hx⟩
  |false=>
   simp only[nowL,Bool.false_eq_true,if_false]
   exact⟨fun h=>⟨x,hx,h⟩,fun⟨z,hz,h⟩=>by rw[←hall z hz];exact h⟩
 ·rw[e,now_con]
  cases k<;>simp only[nowL,mem_srt]
theorem now_canon (f:Wf):past f=true→now ρ (canon O f)=now ρ f:=by
 induction f using Wf.ind with
 |h1=>intro _;rw[canon]
 |h2=>intro _;rw[canon]
 |h3 nm v=>intro _;rw[canon]
 |h4 nm v=>intro _;rw[canon]
 |h5 k l ih=>
  intro h
  rw[past] at h
  have hp:=(pasts_all l).1 h
  rw[canon,canons_map,Bool.eq_iff_iff,now_J,now_con]
  cases k with
  |true=>
   simp only[nowL,if_true,List.mem_map]
   constructor
   ·intro h1 x hx
    rw[←ih x hx (hp x hx)]
    exact h1 _ ⟨x,hx,rfl⟩
   ·rintro h1 _ ⟨x,hx,rfl⟩
    rw[ih x hx (hp x hx)]
    exact h1 x hx
  |false=>
   simp only[nowL,Bool.false_eq_true,if_false,List.mem_map]
   constructor
   ·rintro⟨_,⟨x,hx,rfl⟩,h1⟩
    exact⟨x,hx,by rw[←ih x hx (hp x hx)];exact h1⟩
   ·rintro⟨x,hx,h1⟩
    exact⟨_,⟨x,hx,rfl⟩,by rw[ih x hx (hp x hx)];exact h1⟩
 |h6 a _=>intro h;rw[past] at h;cases h
 |h7 a b _ _=>intro h;rw[past] at h;cases h
 |h8 a b _ _=>intro h;rw[past] at h;cases h
 |h9 v a _=>intro _;rw[canon,now,now]
 |h10 k v a b iha ihb=>
  intro h
  rw[past,Bool.and_eq_true] at h
  rw[canon,now,now,iha h.1,ihb h.2]
theorem past_canon (f:Wf):past f=true→past (canon O f)=true:=by
 induction f using Wf.ind with
 |h1=>intro h;rw[canon];exact h
 |h2=>intro h;rw[canon];exact h
 |h3 nm v=>intro h;rw[canon];exact h
 |h4 nm v=>intro h;rw[canon];exact h
 |h5 k l ih=>
  intro h
  rw[past] at h
  have hp:=(pasts_all l).1 h
  have hS:∀y∈parts k (l.map (canon O)),past y=true:=fun y hy=>by
   obtain⟨x,hx,hy⟩:=List.mem_flatMap.1 hy
   obtain⟨z,hz,rfl⟩:=List.mem_map.1 hx
   have hpz:=ih z hz (hp z hz)
   generalize canon O z=c at*
   have one:flat k c=[c]→past y=true:=fun e=>by
    rw[e,List.mem_singleton] at hy
    rw[hy]
    exact hpz
   cases c with
   |con k' m=>
    by_cases e:k'=k
    ·subst e
     have ef:flat k' (.con k' m)=m:=by simp[flat]
     rw[ef] at hy
     rw[past] at hpz
     exact(pasts_all m).1 hpz y hy
    ·exact one (by simp[flat,e])
   |tt=>cases k with
    |true=>cases hy
    |false=>exact one rfl
   |ff=>cases k with
    |true=>exact one rfl
    |false=>cases hy
   |is nm v=>exact one rfl
   |nis nm v=>exact one rfl
   |next a=>exact one rfl
   |unt a b=>exact one rfl
   |rel a b=>exact one rfl
   |yes v a=>exact one rfl
   |snc k' v a b=>exact one rfl
  rw[canon,canons_map]
  unfold J
  rcases build_cases O k (parts k (l.map (canon O))) with⟨_,e⟩|⟨_,⟨_,e⟩|⟨x,hx,_,e⟩|⟨_,e⟩⟩
  ·rw[e];cases k<;>simp[zero,past]
  ·rw[e];cases k<;>simp[unit,past]
  ·rw[e];exact hS x hx
  ·rw[e,past,pasts_all]
   exact fun y hy=>hS y ((mem_srt O).1 hy)
 |h6 a _=>intro h;rw[past] at h;cases h
 |h7 a b _ _=>intro h;rw[past] at h;cases h
 |h8 a b _ _=>intro h;rw[past] at h;cases h
 |h9 v a ih=>intro h;rw[past] at h;rw[canon,past];exact ih h
 |h10 k v a b iha ihb=>
  intro h
  rw[past,Bool.and_eq_true] at h
  rw[canon,past,iha h.1,ihb h.2]
  rfl
noncomputable def G (f:Wf):Wf:=canon O (aged ρ f)
noncomputable def H (f:Wf):Wf:=canon O (raw ρ f)
theorem G_tt:G O ρ .tt=.tt:=(homG ρ O).tt
theorem G_ff:G O ρ .ff=.ff:=(homG ρ O).ff
theorem H_tt:H O ρ .tt=.tt:=(homH ρ O).tt
theorem H_ff:H O ρ .ff=.ff:=(homH ρ O).ff
theorem G_next (a:Wf):G O ρ (.next a)=mkNext (G O ρ a):=by unfold G;rw[aged,canon]
theorem G_unt (a b:Wf):G O ρ (.unt a b)=mkUnt (G O ρ a) (G O ρ b):=by unfold G;rw[aged,canon]
theorem G_rel (a b:Wf):G O ρ (.rel a b)=mkRel (G O ρ a) (G O ρ b):=by unfold G;rw[aged,canon]
theorem mkNext_cases (a:Wf):(a=.tt∨a=.ff)∧mkNext a=a∨mkNext a=.next a:=by
 cases a<;>simp[mkNext]
theorem mkUnt_cases (a b:Wf):(b=.tt∨b=.ff∨a=.ff)∧mkUnt a b=b∨mkUnt a b=.unt a b:=by
 cases b<;>cases a<;>simp[mkUnt]
theorem mkRel_cases (a b:Wf):(b=.tt∨b=.ff∨a=.tt)∧mkRel a b=b∨mkRel a b=.rel a b:=by
 cases b<;>cases a<;>simp[mkRel]
theorem mkUnt_tt (a:Wf):mkUnt a .tt=.tt:=by cases a<;>rfl
theorem mkUnt_ff (a:Wf):mkUnt a .ff=.ff:=by cases a<;>rfl
theorem mkUnt_l (b:Wf):mkUnt .ff b=b:=by cases b<;>rfl
theorem mkRel_tt (a:Wf):mkRel a .tt=.tt:=by cases a<;>rfl
theorem mkRel_ff (a:Wf):mkRel a .ff=.ff:=by cases a<;>rfl
theorem mkRel_l (b:Wf):mkRel .tt b=b:=by cases b<;>rfl
theorem G_canon (f:Wf):ok f=true→G O ρ (canon O f)=G O ρ f:=by
 induction f using Wf.ind with
 |h1=>intro _;rw[canon]
 |h2=>intro _;rw[canon]
 |h3 nm v=>intro _;rw[canon]
 |h4 nm v=>intro _;rw[canon]
 |h5 k l ih=>
  intro h
  rw[ok] at h
  have hp:=(oks_all l).1 h
  have h1:=(homG ρ O).join k (l.map (canon O))
  have h2:=(homG ρ O).con k l
  rw[canon,canons_map]
  show canon O (aged ρ (J O k (l.map (canon O))))=canon O (aged ρ (.con k l))
  rw[h1,h2,List.map_map]
  congr 1
  exact List.map_congr_left fun x hx=>ih x hx (hp x hx)
 |h6 a ih=>
  intro h
  rw[ok] at h
  have i:=ih h
  rw[canon,G_next,←i]
  rcases mkNext_cases (canon O a) with⟨hc,e⟩|e
  ·rw[e]
   rcases hc with hc|hc<;>rw[hc]
   ·rw[G_tt];rfl
   ·rw[G_ff];rfl
  ·rw[e,G_next]
 |h7 a b iha ihb=>
  intro h
  rw[ok,Bool.and_eq_true] at h
  have ia:=iha h.1
  have ib:=ihb h.2
  rw[canon,G_unt,←ia,←ib]
  rcases mkUnt_cases (canon O a) (canon O b) with⟨hc,e⟩|e
  ·rw[e]
   rcases hc with hc|hc|hc<;>rw[hc]
   ·rw[G_tt,mkUnt_tt]
   ·rw[G_ff,mkUnt_ff]
   ·rw[G_ff,mkUnt_l]
  ·rw[e,G_unt]
 |h8 a b iha ihb=>
  intro h
  rw[ok,Bool.and_eq_true] at h
  have ia:=iha h.1
  have ib:=ihb h.2
  rw[canon,G_rel,←ia,←ib]
  rcases mkRel_cases (canon O a) (canon O b) with⟨hc,e⟩|e
  ·rw[e]
   rcases hc with hc|hc|hc<;>rw[hc]
   ·rw[G_tt,mkRel_tt]
   ·rw[G_ff,mkRel_ff]
   ·rw[G_tt,mkRel_l]
  ·rw[e,G_rel]
 |h9 v a ih=>
  intro h
  rw[ok,Bool.and_eq_true] at h
  have i:=ih h.2
  unfold G at i ⊢
  rw[canon,aged,aged,canon,canon,i,now_canon O ρ a h.1]
 |h10 k v a b iha ihb=>
  intro h
  rw[ok,Bool.and_eq_true,Bool.and_eq_true,Bool.and_eq_true] at h
  obtain⟨⟨⟨h1,h2⟩,h3⟩,h4⟩:=h
  have ia:=iha h3
  have ib:=ihb h4
  unfold G at ia ib ⊢
  rw[canon,aged,aged,canon,canon,ia,ib,now_canon O ρ a h1,now_canon O ρ b h2]
theorem H_next (a:Wf):H O ρ (.next a)=G O ρ a:=by unfold H G;rw[raw]
theorem H_unt (a b:Wf):H O ρ (.unt a b)=J O false [H O ρ b,J O true [H O ρ a,G O ρ (.unt a b)]]:=by
 unfold H G
 rw[raw,canon,canons,canons,canons,canon,canons,canons,canons]
theorem H_rel (a b:Wf):H O ρ (.rel a b)=J O true [H O ρ b,J O false [H O ρ a,G O ρ (.rel a b)]]:=by
 unfold H G
 rw[raw,canon,canons,canons,canons,canon,canons,canons,canons]
theorem J_has_zero {k:Bool} {L:List Wf} (h:zero k∈L):J O k L=zero k:=build_zero O (.inl (List.mem_flatMap.2 ⟨zero k,h,by cases k<;>simp[flat,zero]⟩))
theorem J_drop_unit {k:Bool} {x:Wf} (hx:Nf O x):J O k [x,unit k]=x:=by
 refine Eq.trans (build_congr O fun z=>?_) (J_single O hx k)
 have e:flat k (unit k)=[]:=by cases k<;>rfl
 simp[parts,e]
theorem H_canon (f:Wf):ok f=true→H O ρ (canon O f)=H O ρ f:=by
 induction f using Wf.ind with
 |h1=>intro _;rw[canon]
 |h2=>intro _;rw[canon]
 |h3 nm v=>intro _;rw[canon]
 |h4 nm v=>intro _;rw[canon]
 |h5 k l ih=>
  intro h
  rw[ok] at h
  have hp:=(oks_all l).1 h
  have h1:=(homH ρ O).join k (l.map (canon O))
  have h2:=(homH ρ O).con k l
  rw[canon,canons_map]
  show canon O (raw ρ (J O k (l.map (canon O))))=canon O (raw ρ (.con k l))
  rw[h1,h2,List.map_map]
  congr 1
  exact List.map_congr_left fun x hx=>ih x hx (hp x hx)
 |h6 a _=>
  intro h
  rw[ok] at h
  have i:=G_canon O ρ a h
  rw[canon,H_next,←i]
  rcases mkNext_cases (canon O a) with⟨hc,e⟩|e
  ·rw[e]
   rcases hc with hc|hc<;>rw[hc]
   ·rw[G_tt,H_tt]
   ·rw[G_ff,H_ff]
  ·rw[e,H_next]
 |h7 a b iha ihb=>
  intro h
  have hok:=h
  rw[ok,Bool.and_eq_true] at h
  have ia:=iha h.1
  have ib:=ihb h.2
  have ig:=G_canon O ρ (.unt a b) hok
  rw[canon] at ig
  rw[canon,H_unt,←ia,←ib,←ig]
  have hb:Nf O (H O ρ (canon O b)):=canon_nf O _
  rcases mkUnt_cases (canon O a) (canon O b) with⟨hc,e⟩|e
  ·rw[e]
   rcases hc with hc|hc|hc
   ·rw[hc,H_tt]
    exact(J_has_zero O (k:=false) (by simp[zero])).symm
   ·rw[hc,H_ff,G_ff,J_has_zero O (k:=true) (show zero true∈[H O ρ (canon O a),Wf.ff] by simp[zero])]
    exact(J_drop_unit O (k:=false) Nf.ff).symm
   ·rw[hc,H_ff,J_has_zero O (k:=true) (show zero true∈[Wf.ff,G O ρ (canon O b)] by simp[zero])]
    exact(J_drop_unit O (k:=false) hb).symm
  ·rw[e,H_unt]
 |h8 a b iha ihb=>
  intro h
  have hok:=h
  rw[ok,Bool.and_eq_true] at h
  have ia:=iha h.1
  have ib:=ihb h.2
  have ig:=G_canon O ρ (.rel a b) hok
  rw[canon] at ig
  rw[canon,H_rel,←ia,←ib,←ig]
  have hb:Nf O (H O ρ (canon O b)):=canon_nf O _
  rcases mkRel_cases (canon O a) (canon O b) with⟨hc,e⟩|e
  ·rw[e]
   rcases hc with hc|hc|hc
   ·rw[hc,H_tt,G_tt,J_has_zero O (k:=false) (show zero false∈[H O ρ (canon O a),Wf.tt] by simp[zero])]
    exact(J_drop_unit O (k:=true) Nf.tt).symm
   ·rw[hc,H_ff]
    exact(J_has_zero O (k:=true) (by simp[zero])).symm
   ·rw[hc,H_tt,J_has_zero O (k:=false) (show zero false∈[Wf.tt,G O ρ (canon O b)] by simp[zero])]
    exact(J_drop_unit O (k:=true) hb).symm
  ·rw[e,H_rel]
 |h9 v a _=>
  intro h
  rw[ok,Bool.and_eq_true] at h
  unfold H
  rw[canon,raw,raw]
 |h10 k v a b _ _=>
  intro h
  rw[ok,Bool.and_eq_true,Bool.and_eq_true,Bool.and_eq_true] at h
  obtain⟨⟨⟨h1,h2⟩,_⟩,_⟩:=h
  unfold H
  rw[canon,raw,raw,now,now,now_canon O ρ a h1,now_canon O ρ b h2]
end
end
section
mutual
def size:Wf→Nat
 | .tt=>1
 | .ff=>1
 | .is _ _=>1
 | .nis _ _=>2
 | .con _ l=>sizes l+1
 | .next a=>size a+1
 | .unt a b=>size a+size b+1
 | .rel a b=>size a+size b+1
 | .yes _ a=>size a+1
 | .snc _ _ a b=>size a+size b+1
def sizes:List Wf→Nat
 |[]=>0
 |x::l=>size x+sizes l
end
mutual
def dep:Wf→Nat
 | .tt=>1
 | .ff=>1
 | .is _ _=>1
 | .nis _ _=>2
 | .con _ l=>deps l+1
 | .next a=>dep a+1
 | .unt a b=>max (dep a) (dep b)+1
 | .rel a b=>max (dep a) (dep b)+1
 | .yes _ a=>dep a+1
 | .snc _ _ a b=>max (dep a) (dep b)+1
def deps:List Wf→Nat
 |[]=>0
 |x::l=>max (dep x) (deps l)
end
theorem size_pos (f:Wf):1≤size f:=by cases f<;>simp[size]
theorem sizes_append:∀l m:List Wf,sizes (l++m)=sizes l+sizes m
 |[],m=>by simp[sizes]
 |x::l,m=>by simp[sizes,sizes_append l m];omega
theorem sizes_mem {x:Wf}:∀ {l:List Wf},x∈l→size x≤sizes l
 |[],h=>by cases h
 |y::l,h=>by
  rw[sizes]
  rcases List.mem_cons.1 h with rfl|h
  ·omega
  ·have:=sizes_mem h;omega
theorem deps_le {d:Nat}:∀ {l:List Wf},deps l≤d↔∀x∈l,dep x≤d
 |[]=>by simp[deps]
 |y::l=>by
  rw[deps,Nat.max_le,deps_le (l:=l)]
  simp
section
variable (O:Lt)
theorem sizes_ins (x:Wf):∀l:List Wf,sizes (ins O x l)≤size x+sizes l
 |[]=>by simp[ins,sizes]
 |y::r=>by
  have:=sizes_ins x r
  unfold ins
  split
  ·simp[sizes]
  ·split
   ·simp only[sizes];omega
   ·simp only[sizes];omega
theorem sizes_srt:∀l:List Wf,sizes (srt O l)≤sizes l
 |[]=>by simp[srt,sizes]
 |x::l=>by
  have h1:=sizes_srt l
  have h2:=sizes_ins O x (srt O l)
  show sizes (ins O x (srt O l))≤_
  rw[sizes]
  omega
theorem sizes_flat (k:Bool) (x:Wf):sizes (flat k x)≤size x:=by
 have one:flat k x=[x]→sizes (flat k x)≤size x:=fun e=>by rw[e];simp[sizes]
 cases x with
 |con k' l=>
  by_cases e:k'=k
  ·have ef:flat k (.con k' l)=l:=by simp[flat,e]
   rw[ef,size]
   omega
  ·exact one (by simp[flat,e])
 |tt=>cases k<;>simp[flat,sizes,size]
 |ff=>cases k<;>simp[flat,sizes,size]
 |is nm v=>exact one rfl
 |nis nm v=>exact one rfl
 |next a=>exact one rfl
 |unt a b=>exact one rfl
 |rel a b=>exact one rfl
 |yes v a=>exact one rfl
 |snc k' v a b=>exact one rfl
theorem sizes_parts (k:Bool):∀L:List Wf,sizes (parts k L)≤sizes L
 |[]=>by simp[parts,sizes]
 |x::L=>by
  have h1:=sizes_parts k L
  have h2:=sizes_flat k x
  have e:parts k (x::L)=flat k x++parts k L:=by simp[parts]
  rw[e,sizes_append,sizes]
  omega
theorem size_J (k:Bool) (L:List Wf):size (J O k L)≤sizes L+1:=by
 have hp:=sizes_parts k L
 unfold J
 rcases build_cases O k (parts k L) with⟨_,e⟩|⟨_,⟨_,e⟩|⟨x,hx,_,e⟩|⟨_,e⟩⟩
 ·rw[e];cases k<;>simp[zero,size]
 ·rw[e];cases k<;>simp[unit,size]
 ·rw[e]
  have:=sizes_mem hx
  omega
 ·rw[e,size]
  have:=sizes_srt O (parts k L)
  omega
theorem J_all {P:Wf→Prop} (h1:P .tt) (h2:P .ff) (h3:∀k l,P (.con k l)↔∀x∈l,P x) {k:Bool} {L:List Wf} (h:∀x∈L,P x):P (J O k L):=by
 have hS:∀y∈parts k L,P y:=fun y hy=>by
  obtain⟨c,hc,hy⟩:=List.mem_flatMap.1 hy
  have hpz:=h c hc
  have one:flat k c=[c]→P y:=fun e=>by
   rw[e,List.mem_singleton] at hy
   rw[hy]
   exact hpz
  cases c with
  |con k' m=>
   by_cases e:k'=k
   ·have ef:flat k (.con k' m)=m:=by simp[flat,e]
    rw[ef] at hy
    exact(h3 k' m).1 hpz y hy
   ·exact one (by simp[flat,e])
  |tt=>cases k with
   |true=>cases hy
   |false=>exact one rfl
  |ff=>cases k with
   |true=>exact one rfl
   |false=>cases hy
  |is nm v=>exact one rfl
  |nis nm v=>exact one rfl
  |next a=>exact one rfl
  |unt a b=>exact one rfl
  |rel a b=>exact one rfl
  |yes v a=>exact one rfl
  |snc k' v a b=>exact one rfl
 unfold J
 rcases build_cases O k (parts k L) with⟨_,e⟩|⟨_,⟨_,e⟩|⟨x,hx,_,e⟩|⟨_,e⟩⟩
 ·rw[e];cases k;exact h1;exact h2
 ·rw[e];cases k;exact h2;exact h1
 ·rw[e];exact hS x hx
 ·rw[e]
  exact(h3 k _).2 fun y hy=>hS y ((mem_srt O).1 hy)
theorem dep_J {k:Bool} {L:List Wf} {d:Nat} (hL:∀x∈L,dep x≤d):dep (J O k L)≤d+1:=by
 have hS:∀y∈parts k L,dep y≤d:=fun y hy=>by
  obtain⟨c,hc,hy⟩:=List.mem_flatMap.1 hy
  have hpz:=hL c hc
  have one:flat k c=[c]→dep y≤d:=fun e=>by
   rw[e,List.mem_singleton] at hy
   rw[hy]
   exact hpz
  cases c with
  |con k' m=>
   by_cases e:k'=k
   ·have ef:flat k (.con k' m)=m:=by simp[flat,e]
    rw[ef] at hy
    rw[dep] at hpz
    exact deps_le.1 (Nat.le_of_succ_le hpz) y hy
   ·exact one (by simp[flat,e])
  |tt=>cases k with
   |true=>cases hy
   |false=>exact one rfl
  |ff=>cases k with
   |true=>exact one rfl
   |false=>cases hy
  |is nm v=>exact one rfl
  |nis nm v=>exact one rfl
  |next a=>exact one rfl
  |unt a b=>exact one rfl
  |rel a b=>exact one rfl
  |yes v a=>exact one rfl
  |snc k' v a b=>exact one rfl
 unfold J
 rcases build_cases O k (parts k L) with⟨_,e⟩|⟨_,⟨_,e⟩|⟨x,hx,_,e⟩|⟨_,e⟩⟩
 ·rw[e];cases k<;>simp[zero,dep]
 ·rw[e];cases k<;>simp[unit,dep]
 ·rw[e];have:=hS x hx;omega
 ·rw[e,dep]
  have:deps (srt O (parts k L))≤d:=deps_le.2 fun y hy=>hS y ((mem_srt O).1 hy)
  omega
theorem size_canon (f:Wf):size (canon O f)≤size f:=by
 induction f using Wf.ind with
 |h1=>rw[canon];exact Nat.le_refl _
 |h2=>rw[canon];exact Nat.le_refl _
 |h3 nm v=>rw[canon];exact Nat.le_refl _
 |h4 nm v=>rw[canon];exact Nat.le_refl _
 |h5 k l ih=>
  rw[canon,canons_map,size]
  have h1:=size_J O k (l.map (canon O))
  have h2:∀l:List Wf,(∀x∈l,size (canon O x)≤size x)→sizes (l.map (canon O))≤sizes l:=by
   intro l
   induction l with
   |nil=>intro _;exact Nat.le_refl _
   |cons x l ihl=>
    intro h
    have a:=h x (by simp)
    have b:=ihl (fun y hy=>h y (by simp[hy]))
    simp only[List.map_cons,sizes]
    omega
  have:=h2 l ih
  omega
 |h6 a ih=>
  rw[canon]
  rcases mkNext_cases (canon O a) with⟨_,e⟩|e
  ·rw[e,size];omega
  ·rw[e,size,size];omega
 |h7 a b iha ihb=>
  rw[canon]
  rcases mkUnt_cases (canon O a) (canon O b) with⟨_,e⟩|e
  ·rw[e,size];omega
  ·rw[e,size,size];omega
 |h8 a b iha ihb=>
  rw[canon]
  rcases mkRel_cases (canon O a) (canon O b) with⟨_,e⟩|e
  ·rw[e,size];omega
  ·rw[e,size,size];omega
 |h9 v a ih=>rw[canon,size,size];omega
 |h10 k v a b iha ihb=>rw[canon,size,size];omega
theorem dep_canon (f:Wf):dep (canon O f)≤dep f:=by
 induction f using Wf.ind with
 |h1=>rw[canon];exact Nat.le_refl _
 |h2=>rw[canon];exact Nat.le_refl _
 |h3 nm v=>rw[canon];exact Nat.le_refl _
 |h4 nm v=>rw[canon];exact Nat.le_refl _
 |h5 k l ih=>
  rw[canon,canons_map,dep]
  refine dep_J O fun y hy=>?_
  obtain⟨x,hx,rfl⟩:=List.mem_map.1 hy
  exact Nat.le_trans (ih x hx) (deps_le.1 (Nat.le_refl _) x hx)
 |h6 a ih=>
  rw[canon]
  rcases mkNext_cases (canon O a) with⟨_,e⟩|e
  ·rw[e,dep];omega
  ·rw[e,dep,dep];omega
 |h7 a b iha ihb=>
  rw[canon]
  rcases mkUnt_cases (canon O a) (canon O b) with⟨_,e⟩|e
  ·rw[e,dep];omega
  ·rw[e,dep,dep];omega
 |h8 a b iha ihb=>
  rw[canon]
  rcases mkRel_cases (canon O a) (canon O b) with⟨_,e⟩|e
  ·rw[e,dep];omega
  ·rw[e,dep,dep];omega
 |h9 v a ih=>rw[canon,dep,dep];omega
 |h10 k v a b iha ihb=>rw[canon,dep,dep];omega
theorem ok_canon (f:Wf):ok f=true→ok (canon O f)=true:=by
 induction f using Wf.ind with
 |h1=>intro h;rw[canon];exact h
 |h2=>intro h;rw[canon];exact h
 |h3 nm v=>intro h;rw[canon];exact h
 |h4 nm v=>intro h;rw[canon];exact h
 |h5 k l ih=>
  intro h
  rw[ok] at h
  have hp:=(oks_all l).1 h
  rw[canon,canons_map]
  refine J_all O (P:=fun x=>ok x=true) rfl rfl (fun k l=>by rw[ok,oks_all]) fun y hy=>?_
  obtain⟨x,hx,rfl⟩:=List.mem_map.1 hy
  exact ih x hx (hp x hx)
 |h6 a ih=>
  intro h
  rw[ok] at h
  rw[canon]
  rcases mkNext_cases (canon O a) with⟨_,e⟩|e
  ·rw[e];exact ih h
  ·rw[e,ok];exact ih h
 |h7 a b iha ihb=>
  intro h
  rw[ok,Bool.and_eq_true] at h
  rw[canon]
  rcases mkUnt_cases (canon O a) (canon O b) with⟨_,e⟩|e
  ·rw[e];exact ihb h.2
  ·rw[e,ok,iha h.1,ihb h.2];rfl
 |h8 a b iha ihb=>
  intro h
  rw[ok,Bool.and_eq_true] at h
  rw[canon]
  rcases mkRel_cases (canon O a) (canon O b) with⟨_,e⟩|e
  ·rw[e];exact ihb h.2
  ·rw[e,ok,iha h.1,ihb h.2];rfl
 |h9 v a ih=>
  intro h
  rw[ok,Bool.and_eq_true] at h
  rw[canon,ok,past_canon O a h.1,ih h.2]
  rfl
 |h10 k v a b iha ihb=>
  intro h
  rw[ok,Bool.and_eq_true,Bool.and_eq_true,Bool.and_eq_true] at h
  obtain⟨⟨⟨h1,h2⟩,h3⟩,h4⟩:=h
  rw[canon,ok,past_canon O a h1,past_canon O b h2,iha h3,ihb h4]
  rfl
end
section
variable (ρ:ByteArray→Int→Bool)
theorem size_aged (f:Wf):size (aged ρ f)=size f:=by
 induction f using Wf.ind with
 |h1=>rw[aged]
 |h2=>rw[aged]
 |h3 nm v=>rw[aged]
 |h4 nm v=>rw[aged]
 |h5 k l ih=>
  rw[aged,ageds_map,size,size]
  have:∀l:List Wf,(∀x∈l,size (aged ρ x)=size x)→sizes (l.map (aged ρ))=sizes l:=by
   intro l
   induction l with
   |nil=>intro _;rfl
   |cons x l ihl=>
    intro h
    simp only[List.map_cons,sizes]
    rw[h x (by simp),ihl (fun y hy=>h y (by simp[hy]))]
  rw[this l ih]
 |h6 a ih=>rw[aged,size,size,ih]
 |h7 a b iha ihb=>rw[aged,size,size,iha,ihb]
 |h8 a b iha ihb=>rw[aged,size,size,iha,ihb]
 |h9 v a ih=>rw[aged,size,size,ih]
 |h10 k v a b iha ihb=>rw[aged,size,size,iha,ihb]
theorem dep_aged (f:Wf):dep (aged ρ f)=dep f:=by
 induction f using Wf.ind with
 |h1=>rw[aged]
 |h2=>rw[aged]
 |h3 nm v=>rw[aged]
 |h4 nm v=>rw[aged]
 |h5 k l ih=>
  rw[aged,ageds_map,dep,dep]
  have:∀l:List Wf,(∀x∈l,dep (aged ρ x)=dep x)→deps (l.map (aged ρ))=deps l:=by
   intro l
   induction l with
   |nil=>intro _;rfl
   |cons x l ihl=>
    intro h
    simp only[List.map_cons,deps]
    rw[h x (by simp),ihl (fun y hy=>h y (by simp[hy]))]
  rw[this l ih]
 |h6 a ih=>rw[aged,dep,dep,ih]
 |h7 a b iha ihb=>rw[aged,dep,dep,iha,ihb]
 |h8 a b iha ihb=>rw[aged,dep,dep,iha,ihb]
 |h9 v a ih=>rw[aged,dep,dep,ih]
 |h10 k v a b iha ihb=>rw[aged,dep,dep,iha,ihb]
theorem sq_mono {a b:Nat} (h:a≤b):a*a≤b*b:=Nat.mul_le_mul h h
theorem size_raw (f:Wf):4*size (raw ρ f)+5≤size f*size f+8*size f:=by
 have c1:∀b f,4*size (cst b)+5≤size f*size f+8*size f:=fun b f=>by
  have h1:size (cst b)=1:=by cases b<;>simp[cst,size]
  have h2:=size_pos f
  have h3:=sq_mono h2
  omega
 have two:∀m n x y s:Nat,1≤m→1≤n→4*x+5≤m*m+8*m→4*y+5≤n*n+8*n→s=m+n+1→4*(y+(x+s+1)+1)+5≤s*s+8*s:=by
  intro m n x y s hm hn hx hy hs
  subst hs
  have e:(m+n+1)*(m+n+1)=m*m+n*n+2*(m*n)+2*m+2*n+1:=by
   simp only[Nat.add_mul,Nat.mul_add,Nat.mul_one,Nat.one_mul,Nat.mul_comm n m]
   omega
  have h1:m+n≤m*n+1:=by
   obtain⟨m',rfl⟩:∃m',m=m'+1:=⟨m - 1,by omega⟩
   obtain⟨n',rfl⟩:∃n',n=n'+1:=⟨n - 1,by omega⟩
   simp only[Nat.add_mul,Nat.mul_add,Nat.mul_one,Nat.one_mul]
   omega
  omega
 induction f using Wf.ind with
 |h1=>rw[raw];simp[size]
 |h2=>rw[raw];simp[size]
 |h3 nm v=>rw[raw];exact c1 _ _
 |h4 nm v=>rw[raw];exact c1 _ _
 |h5 k l ih=>
  rw[raw]
  split
  ·exact c1 _ _
  ·rw[raws_map,size,size]
   have:∀l:List Wf,(∀x∈l,4*size (raw ρ x)+5≤size x*size x+8*size x)→4*sizes (l.map (raw ρ))≤sizes l*sizes l+8*sizes l:=by
    intro l
    induction l with
    |nil=>intro _;simp[sizes]
    |cons x l ihl=>
     intro h
     have a:=h x (by simp)
     have b:=ihl (fun y hy=>h y (by simp[hy]))
     simp only[List.map_cons,sizes]
     have e:(size x+sizes l)*(size x+sizes l)=size x*size x+sizes l*sizes l+2*(size x*sizes l):=by
      simp only[Nat.add_mul,Nat.mul_add,Nat.mul_comm (sizes l) (size x)]
      omega
     omega
   have h:=this l ih
   have e:(sizes l+1)*(sizes l+1)=sizes l*sizes l+2*sizes l+1:=by
    simp only[Nat.add_mul,Nat.mul_add,Nat.mul_one,Nat.one_mul]
    omega
   omega
 |h6 a _=>
  rw[raw,size_aged,size]
  have h2:=size_pos a
  have h3:size a*1≤size a*size a:=Nat.mul_le_mul_left _ h2
  have e:(size a+1)*(size a+1)=size a*size a+2*size a+1:=by
   simp only[Nat.add_mul,Nat.mul_add,Nat.mul_one,Nat.one_mul]
   omega
  omega
 |h7 a b iha ihb=>
  have h:=two (size a) (size b) (size (raw ρ a)) (size (raw ρ b)) (size (.unt a b)) (size_pos a) (size_pos b) iha ihb (by rw[size])
  rw[raw]
  simp only[size,sizes,size_aged] at h ⊢
  omega
 |h8 a b iha ihb=>
  have h:=two (size a) (size b) (size (raw ρ a)) (size (raw ρ b)) (size (.rel a b)) (size_pos a) (size_pos b) iha ihb (by rw[size])
  rw[raw]
  simp only[size,sizes,size_aged] at h ⊢
  omega
 |h9 v a _=>rw[raw];exact c1 _ _
 |h10 k v a b _ _=>rw[raw];exact c1 _ _
theorem dep_size (f:Wf):dep f≤size f:=by
 induction f using Wf.ind with
 |h1=>simp[dep,size]
 |h2=>simp[dep,size]
 |h3 nm v=>simp[dep,size]
 |h4 nm v=>simp[dep,size]
 |h5 k l ih=>
  rw[dep,size]
  have:deps l≤sizes l:=deps_le.2 fun x hx=>Nat.le_trans (ih x hx) (sizes_mem hx)
  omega
 |h6 a ih=>rw[dep,size];omega
 |h7 a b iha ihb=>rw[dep,size];omega
 |h8 a b iha ihb=>rw[dep,size];omega
 |h9 v a ih=>rw[dep,size];omega
 |h10 k v a b iha ihb=>rw[dep,size];omega
theorem dep_raw (f:Wf):dep (raw ρ f)≤size f+2:=by
 have c1:∀b,dep (cst b)=1:=fun b=>by cases b<;>simp[cst,dep]
 induction f using Wf.ind with
 |h1=>simp[raw,dep,size]
 |h2=>simp[raw,dep,size]
 |h3 nm v=>rw[raw,c1];omega
 |h4 nm v=>rw[raw,c1];omega
 |h5 k l ih=>
  rw[raw]
  split
  ·rw[c1];omega
  ·rw[raws_map,dep,size]
   have:deps (l.map (raw ρ))≤sizes l+2:=deps_le.2 fun x hx=>by
    obtain⟨y,hy,rfl⟩:=List.mem_map.1 hx
    have h1:=ih y hy
    have h2:=sizes_mem hy
    omega
   omega
 |h6 a _=>
  rw[raw,dep_aged,size]
  have:=dep_size a
  omega
 |h7 a b iha ihb=>
  have h:=dep_size (.unt a b)
  have ha:=size_pos a
  have hb:=size_pos b
  rw[raw]
  simp only[dep,deps,size,dep_aged] at h ⊢
  omega
 |h8 a b iha ihb=>
  have h:=dep_size (.rel a b)
  have ha:=size_pos a
  have hb:=size_pos b
  rw[raw]
  simp only[dep,deps,size,dep_aged] at h ⊢
  omega
 |h9 v a _=>rw[raw,c1];omega
 |h10 k v a b _ _=>rw[raw,c1];omega
end
theorem raw_within (ρ:ByteArray→Int→Bool) {f:Wf} (h:size f≤30):size (raw ρ f)≤400∧dep (raw ρ f)≤60:=by
 have h1:=size_raw ρ f
 have h2:=dep_raw ρ f
 have h3:=sq_mono h
 omega
end
section
open Go.RowKit Go.Sort
variable {n0:Nat}
def bI (v:Bool):Int:=if v then 1 else 0
mutual
def trC:Wf→Fs→Fs
 | .tt,r=>.cons 1 ⟨#[]⟩ 0 0 .nil r
 | .ff,r=>.cons 2 ⟨#[]⟩ 0 0 .nil r
 | .is nm v,r=>.cons 3 nm v 0 .nil r
 | .nis nm v,r=>.cons 4 ⟨#[]⟩ 0 0 (.cons 3 nm v 0 .nil .nil) r
 | .con k l,r=>.cons (if k then 5 else 6) ⟨#[]⟩ 0 0 (trs l) r
 | .next a,r=>.cons 8 ⟨#[]⟩ 0 0 (trC a .nil) r
 | .unt a b,r=>.cons 9 ⟨#[]⟩ 0 0 (trC a (trC b .nil)) r
 | .rel a b,r=>.cons 10 ⟨#[]⟩ 0 0 (trC a (trC b .nil)) r
 | .yes v a,r=>.cons 15 ⟨#[]⟩ (bI v) 0 (trC a .nil) r
 | .snc k v a b,r=>.cons (if k then 16 else 17) ⟨#[]⟩ (bI v) 0 (trC a (trC b .nil)) r
def trs:List Wf→Fs
 |[]=>.nil
 |x::l=>trC x (trs l)
end
def tr (f:Wf):Fs:=trC f .nil
theorem bI_inj {v w:Bool} (h:bI v=bI w):v=w:=by cases v<;>cases w<;>simp_all [bI]
theorem trs_inj' {l:List Wf} (h:∀x∈l,∀(g:Wf) (r s:Fs),trC x r=trC g s→x=g∧r=s):∀m,trs l=trs m→l=m:=by
 induction l with
 |nil=>intro m e;cases m with
  |nil=>rfl
  |cons y m=>cases y<;>simp[trs,trC] at e
 |cons x l ih=>intro m e;cases m with
  |nil=>cases x<;>simp[trs,trC] at e
  |cons y m=>
   simp only[trs] at e
   obtain⟨hx,e'⟩:=h x (by simp) _ _ _ e
   rw[hx,ih (fun z hz=>h z (by simp[hz])) m e']
theorem trC_inj (f:Wf):∀(g:Wf) (r s:Fs),trC f r=trC g s→f=g∧r=s:=by
 induction f using Wf.ind with
 |h1=>intro g r s e;cases g<;>simp[trC] at e ⊢ <;>(try split at e)<;>simp_all
 |h2=>intro g r s e;cases g<;>simp[trC] at e ⊢ <;>(try split at e)<;>simp_all
 |h3=>intro g r s e;cases g<;>simp[trC] at e ⊢ <;>(try split at e)<;>simp_all
 |h4=>intro g r s e;cases g<;>simp[trC] at e ⊢ <;>(try split at e)<;>simp_all
 |h5 k l ih=>
  intro g r s e
  cases g with
  |con k' l'=>
   simp only[trC,Fs.cons.injEq,true_and] at e
   obtain⟨e1,e2,e3⟩:=e
   have:k=k':=by cases k<;>cases k'<;>simp_all
   rw[this,trs_inj' ih _ e2,e3]
   exact⟨rfl,rfl⟩
  |_=>cases k<;>simp[trC] at e<;>(try split at e)<;>simp_all
 |h6 a ih=>
  intro g r s e
  cases g with
  |next a'=>
   simp only[trC,Fs.cons.injEq,true_and] at e
   obtain⟨rfl, -⟩:=ih _ _ _ e.1
   exact⟨rfl,e.2⟩
  |_=>simp[trC] at e<;>(try split at e)<;>simp_all
 |h7 a b ia ib=>
  intro g r s e
  cases g with
  |unt a' b'=>
   simp only[trC,Fs.cons.injEq,true_and] at e
   obtain⟨rfl,h⟩:=ia _ _ _ e.1
   obtain⟨rfl, -⟩:=ib _ _ _ h
   exact⟨rfl,e.2⟩
  |_=>simp[trC] at e<;>(try split at e)<;>simp_all
 |h8 a b ia ib=>
  intro g r s e
  cases g with
  |rel a' b'=>
   simp only[trC,Fs.cons.injEq,true_and] at e
   obtain⟨rfl,h⟩:=ia _ _ _ e.1
   obtain⟨rfl, -⟩:=ib _ _ _ h
   exact⟨rfl,e.2⟩
  |_=>simp[trC] at e<;>(try split at e)<;>simp_all
 |h9 v a ih=>
  intro g r s e
  cases g with
  |yes v' a'=>
   simp only[trC,Fs.cons.injEq,true_and] at e
   obtain⟨rfl, -⟩:=ih _ _ _ e.2.1
   obtain rfl:=bI_inj e.1
   exact⟨rfl,e.2.2⟩
  |_=>simp[trC] at e<;>(try split at e)<;>simp_all
 |h10 k v a b ia ib=>
  intro g r s e
  cases g with
  |snc k' v' a' b'=>
   simp only[trC,Fs.cons.injEq,true_and] at e
   obtain⟨rfl,h⟩:=ia _ _ _ e.2.2.1
   obtain⟨rfl, -⟩:=ib _ _ _ h
   obtain rfl:=bI_inj e.2.1
   have:k=k':=by have:=e.1;cases k<;>cases k'<;>simp_all
   subst this
   exact⟨rfl,e.2.2.2⟩
  |_=>cases k<;>simp[trC] at e<;>(try split at e)<;>simp_all
theorem tr_inj {f g:Wf} (h:tr f=tr g):f=g:=(trC_inj f g _ _ h).1
def ordF:Lt where
 lt a b:=decide (cmpF (tr a) (tr b)<0)
 irr a:=by simp[cmpF_same]
 trans a b c h1 h2:=by
  simp only[decide_eq_true_eq] at*
  exact cmpL_tc.trans _ _ _ h1 h2
 tri a b:=by
  simp only[decide_eq_true_eq]
  by_cases h0:cmpF (tr a) (tr b)=0
  ·exact .inr (.inl (tr_inj (cmpF_eq (by cases a<;>cases b<;>simp[tr,trC,Fs.len]) h0)))
  ·by_cases h1:cmpF (tr a) (tr b)<0
   ·exact .inl h1
   ·exact .inr (.inr (cmpL_tc.flop _ _ (show 0<cmpF (tr a) (tr b) by omega)))
theorem PAt.drop {w:World}:∀ {f:Fs} {b off:Nat} (j:Nat),PAt n0 w f b off→PAt n0 w (f.drop j) b (off+j*5)
 | .nil,_,_,0,_=>trivial
 | .nil,_,_,_+1,_=>trivial
 | .cons _ _ _ _ _ _,_,_,0,h=>h
 | .cons _ _ _ _ _ r,b,off,j+1,h=>by
  have:=PAt.drop (f:=r) j h.2
  rw[show off+(j+1)*5=off+5+j*5 by omega]
  exact this
theorem Fs.dropC:∀(f:Fs) (j:Nat),j<f.len→∃op nm v bd a r,f.drop j=.cons op nm v bd a r
 | .nil,_,h=>by simp[Fs.len] at h
 | .cons op nm v bd a r,0,_=>⟨op,nm,v,bd,a,r,rfl⟩
 | .cons _ _ _ _ _ r,j+1,h=>Fs.dropC r j (by simpa[Fs.len] using h)
theorem elem_of {w:World} {f:Fs} {b o:Nat} (hF:FAt w f b o) (hP:PAt n0 w f b o) (hn:f.nodes≤100000) (j:Nat) (hj:j<f.len):
  ∃(x:El n0 w) (r:Fs),f.drop j=.cons x.1.op x.1.nm x.1.v x.1.bd x.1.args r∧∀c v,(encE x)[c]? =some v→w.cell? ⟨b,o+j*5+c,none⟩=some v:=by
 obtain⟨op,nm,v,bd,args,r,e⟩:=Fs.dropC f j hj
 have h1:=FAt.drop j hF
 have h2:=PAt.drop j hP
 have hnn:=Fs.drop_nodes f j
 rw[e] at h1 h2 hnn
 obtain⟨c0,c1,c2,c3,c4,c5,⟨a,c,c6,c7,c8⟩,c9⟩:=h1
 refine⟨⟨⟨op,nm,v,bd,args,a,c⟩,c8,fun p o' e h0=>?_,c2,c5,c7,by simp only[Fs.nodes] at hnn;show args.nodes≤100000;omega⟩,r,e,fun k u hk=>?_⟩
 ·subst e
  exact h2.1 p o' _ _ c6 h0
 ·match k,hk with
  |0,hk=>simp only[encE,ElA.enc,List.getElem?_cons_zero,Option.some.injEq] at hk;subst hk;exact c0
  |1,hk=>simp only[encE,ElA.enc,List.getElem?_cons_zero,List.getElem?_cons_succ,Option.some.injEq] at hk;subst hk;exact c1
  |2,hk=>simp only[encE,ElA.enc,List.getElem?_cons_zero,List.getElem?_cons_succ,Option.some.injEq] at hk;subst hk;exact c3
  |3,hk=>simp only[encE,ElA.enc,List.getElem?_cons_zero,List.getElem?_cons_succ,Option.some.injEq] at hk;subst hk;exact c4
  |4,hk=>simp only[encE,ElA.enc,List.getElem?_cons_zero,List.getElem?_cons_succ,Option.some.injEq] at hk;subst hk;exact c6
  |k+5,hk=>simp[encE,ElA.enc] at hk
theorem trC_cons (x:Wf) (r:Fs):∃op nm v bd a,trC x .nil=.cons op nm v bd a .nil∧trC x r=.cons op nm v bd a r:=by
 cases x<;>exact⟨_,_,_,_,_,rfl,rfl⟩
theorem trs_len:∀L:List Wf,(trs L).len=L.length
 |[]=>rfl
 |x::L=>by
  obtain⟨op,nm,v,bd,a,_,e⟩:=trC_cons x (trs L)
  simp only[trs,e,Fs.len,List.length_cons,trs_len L]
theorem trs_drop:∀(L:List Wf) (j:Nat) (h:j<L.length),(trs L).drop j=trC L[j] (trs (L.drop (j+1)))
 |[],_,h=>by simp at h
 |x::L,0,_=>by
  obtain⟨op,nm,v,bd,a,_,e⟩:=trC_cons x (trs L)
  simp[trs,e,Fs.drop]
 |x::L,j+1,h=>by
  obtain⟨op,nm,v,bd,a,_,e⟩:=trC_cons x (trs L)
  have:=trs_drop L j (by simpa using h)
  simp only[trs,e,Fs.drop,List.getElem_cons_succ,this,List.drop_succ_cons]
theorem elemW {w:World} {L:List Wf} {b o:Nat} (hF:FAt w (trs L) b o) (hP:PAt n0 w (trs L) b o) (hn:(trs L).nodes≤100000) (j:Nat) (hj:j<L.length):
  ∃x:El n0 w,treeE x=tr L[j]∧∀c v,(encE x)[c]? =some v→w.cell? ⟨b,o+j*5+c,none⟩=some v:=by
 obtain⟨x,r,e,hc⟩:=elem_of hF hP hn j (by rw[trs_len];exact hj)
 refine⟨x,?_,hc⟩
 rw[trs_drop L j hj] at e
 obtain⟨op,nm,v,bd,a,e1,e2⟩:=trC_cons L[j] (trs (L.drop (j+1)))
 rw[e2] at e
 simp only[Fs.cons.injEq] at e
 obtain⟨h1,h2,h3,h4,h5, -⟩:=e
 show Fs.cons x.1.op x.1.nm x.1.v x.1.bd x.1.args .nil=_
 rw[tr,e1,h1,h2,h3,h4,h5]
theorem elemsW {w:World} {L:List Wf} {b o:Nat} (hF:FAt w (trs L) b o) (hP:PAt n0 w (trs L) b o) (hn:(trs L).nodes≤100000):
  ∃xs:List (El n0 w),xs.map treeE=L.map tr∧∀j (h:j<xs.length) c v,(encE xs[j])[c]? =some v→w.cell? ⟨b,o+j*5+c,none⟩=some v:=by
 have hh:∀n,n≤L.length→∃xs:List (El n0 w),xs.map treeE=(L.take n).map tr∧∀j (h:j<xs.length) c v,(encE xs[j])[c]? =some v→w.cell? ⟨b,o+j*5+c,none⟩=some v:=by
  intro n
  induction n with
  |zero=>exact fun _=>⟨[],by simp,fun j h=>by simp at h⟩
  |succ n ih=>
   intro hn'
   obtain⟨xs,h1,h2⟩:=ih (by omega)
   obtain⟨x,e,hc⟩:=elemW hF hP hn n (by omega)
   have hl:xs.length=n:=by have:=congrArg List.length h1;simpa[Nat.min_eq_left (show n≤L.length by omega)] using this
   refine⟨xs++[x],?_,fun j h c v hv=>?_⟩
   ·rw[List.map_append,h1,List.take_succ_eq_append_getElem (by omega),List.map_append]
    simp[e]
   ·by_cases hj:j<xs.length
    ·rw[List.getElem_append_left hj] at hv
     exact h2 j hj c v hv
    ·have hjn:j=n:=by simp at h;omega
     subst hjn
     have e0:(xs++[x])[j]=x:=by simp[←hl]
     rw[e0] at hv
     exact hc c v hv
 have:=hh L.length (Nat.le_refl _)
 rwa[List.take_length] at this
end
section
open Go.RowKit Go.Sort
variable {n0:Nat}
theorem Tryz.info48:(Tryz.prog.info? 48).map (fun i=>(i.zero,i.size,i.bytes))=some (some (.agg #[.int .i64 0,.string ⟨#[]⟩,.int .i64 0,.int .i64 0,.slice none 0 0]),5,64):=by kernel_rfl
theorem cellsE_len {w0:World}:∀xs:List (El n0 w0),(xs.flatMap encE).length=xs.length*5
 |[]=>rfl
 |x::xs=>by rw[List.flatMap_cons,List.length_append,cellsE_len xs,encE_len,List.length_cons];omega
theorem cellsE_get {w0:World}:∀(xs:List (El n0 w0)) (j:Nat) (h:j<xs.length) (c:Nat),c<5→(xs.flatMap encE)[j*5+c]? =(encE xs[j])[c]?
 |[],_,h,_,_=>by simp at h
 |x::xs,0,_,c,hc=>by
  rw[List.flatMap_cons,List.getElem?_append_left (by rw[encE_len];omega)]
  simp
 |x::xs,j+1,h,c,hc=>by
  rw[List.flatMap_cons,List.getElem?_append_right (by rw[encE_len];omega),encE_len,show(j+1)*5+c - 5=j*5+c by omega,cellsE_get xs j (by simpa using h) c hc]
  rfl
theorem cellsE_one {w0:World} (xs:List (El n0 w0)):∀u∈xs.flatMap encE,u.oneCell'=true:=by
 intro u hu
 obtain⟨x,_,h⟩:=List.mem_flatMap.1 hu
 exact encE_one x u h
theorem cellsE_at {w0 W:World} {xs:List (El n0 w0)} {b o:Nat} (h:∀j (h:j<xs.length) c v,(encE xs[j])[c]? =some v→W.cell? ⟨b,o+j*5+c,none⟩=some v):∀k u,(xs.flatMap encE)[k]? =some u→W.cell? ((⟨b,o,none⟩:Addr).add k)=some u:=by
 intro k u hk
 have hkl:k<xs.length*5:=by have:=(List.getElem?_eq_some_iff.1 hk).1;rwa[cellsE_len] at this
 have e:k / 5*5+k % 5=k:=by omega
 rw[←e,cellsE_get xs (k / 5) (by omega) (k % 5) (by omega)] at hk
 have:=h (k / 5) (by omega) (k % 5) u hk
 rw[Addr.add_lit]
 rwa[show o+k / 5*5+k % 5=o+k by omega] at this
set_option maxRecDepth 100000 in
theorem appendE {w0 W:World} {lo cap sb so cc:Nat} {a:Option Addr} {xs news:List (El n0 w0)} (h:ListAt W lo a cap xs) (hlo:lo≤W.heap.size)
  (hsrc:∀j (h:j<news.length) c v,(encE news[j])[c]? =some v→W.cell? ⟨sb,so+j*5+c,none⟩=some v) (hne:0<news.length) (hcap:cap≤maxLen) (hsm:xs.length+news.length≤1000000):
  ∃a' cap' W',(Builtin.append_ #[46,46] 46 #[.slice a xs.length cap,.slice (some ⟨sb,so,none⟩) news.length cc]).run Tryz.prog W=.ok (.slice a' (xs.length+news.length) cap') W'∧ListAt W' lo a' cap' (xs++news)∧
   (∃row,W.grownBy W' row∧∀k,row=some k→lo≤k)∧W.drawn≤W'.drawn∧cap'≤maxLen:=by
 obtain⟨i,hi,hz,hs,hb⟩:=info_parts Tryz.info48
 have hnews:=cellsE_at hsrc
 have hnl:(news.flatMap encE).length=news.length*i.size:=by rw[cellsE_len,hs]
 by_cases hr:xs.length+news.length≤cap
 ·rcases h with⟨rfl,rfl,rfl⟩|⟨blk,rfl,hb1,hlc,cs,T,hB,hcs,hcc⟩
  ·rw[List.length_nil] at hr;omega
  ·have hrun:=append_room Tryz.prog W 46 46 48 T i Tryz.underlying46 hi blk xs.length cap cs hB ⟨sb,so,none⟩ news.length cc (news.flatMap encE) hnl hnews (cellsE_one news) hr (by rw[hs,hcs,cellsE_len];omega)
   rw[hs] at hrun
   have hcl:cs.toList.length=cap*5:=by rw[←hcs];exact Array.length_toList
   have hlt:(cs.toList.take (xs.length*5)).length=xs.length*5:=by rw[List.length_take,hcl];omega
   refine⟨_,cap,_,hrun,.inr ⟨blk,rfl,hb1,by simpa using hr,_,T,setRow_heap W blk cs _ T _ hB,?_,fun j hj c hc=>?_⟩,⟨some blk,⟨rfl,rfl,rfl,by simp[World.setRow],fun k _ hk=>setRow_other W blk k _ (fun e=>hk (by rw[e]))⟩,fun k e=>by cases e;exact hb1⟩,Nat.le_refl _,hcap⟩
   ·simp only[List.size_toArray,List.length_append,hlt,List.length_drop,hcl,cellsE_len]
    omega
   ·rw[List.getElem?_toArray]
    by_cases hj1:j<xs.length
    ·rw[get_mid (by omega),List.getElem?_take,if_pos (by omega),Array.getElem?_toList,hcc j hj1 c hc,List.getElem_append_left hj1]
    ·have hj2:j - xs.length<news.length:=by simp at hj;omega
     rw[List.append_assoc,List.getElem?_append_right (by omega),hlt,List.getElem?_append_left (by rw[cellsE_len];omega),show j*5+c - xs.length*5=(j - xs.length)*5+c by omega,cellsE_get news _ hj2 c hc,List.getElem_append_right (by omega)]
 ·have hxc:xs.length≤cap:=by
   rcases h with⟨rfl,rfl,rfl⟩|⟨blk,rfl,hb1,hlc,_⟩
   ·simp
   ·exact hlc
  have hold:(Builtin.firstCells i.size xs.length (.slice a xs.length cap)).run Tryz.prog W.drew=.ok (xs.flatMap encE).toArray W.drew:=by
   rcases h with⟨rfl,rfl,rfl⟩|⟨blk,rfl,hb1,hR⟩
   ·exact run_firstCells_none W.drew i.size 0 0 0
   ·refine run_firstCells_some W.drew i.size xs.length ⟨blk,0,none⟩ xs.length cap _ (by rw[cellsE_len,hs]) (cellsE_at fun j hj c v hv=>?_)
    obtain⟨hlc,cs,T,hB,hcs,hcc⟩:=hR
    have hc5:c<5:=by have:=(List.getElem?_eq_some_iff.1 hv).1;rwa[encE_len] at this
    have:=hcc j hj c hc5
    rw[hv] at this
    show W.cell? _=_
    simp[World.cell?,hB,this]
  have hrun:=run_append_grow_src (P:=Tryz.prog) W 46 46 46 48 i _ Tryz.underlying46 hi hz a xs.length cap (xs.flatMap encE) hold (.slice (some ⟨sb,so,none⟩) news.length cc) news.length (news.flatMap encE) (Src.ofSlice W Tryz.underlying46 ⟨sb,so,none⟩ news.length cc _ hnl hnews (cellsE_one news)) (by omega) (by omega) (growslice_fits (by omega) (by rw[hb];omega))
  have hge:=grownCap_ge W (xs.length+news.length) cap 48
  have hgm:=grownCap_le_maxLen W (xs.length+news.length) cap 48 (by unfold maxLen;omega)
  refine⟨_,_,_,hrun,.inr ⟨W.heap.size,rfl,hlo,by simpa using hge,_,_,World.alloc_heap_new W.drew _,?_,fun j hj c hc=>?_⟩,⟨none,⟨rfl,rfl,rfl,by simp,fun k hk _=>heap_alloc_old W.drew _ hk⟩,fun k e=>by cases e⟩,Nat.le_succ _,hgm⟩
  ·simp only[Array.size_append,List.size_toArray,List.length_append,cellsE_len,size_zeroCells]
   have e2:(Value.cells (.agg #[.int .i64 0,.string ⟨#[]⟩,.int .i64 0,.int .i64 0,.slice none 0 0])).size=5:=rfl
   rw[e2]
   omega
  ·have hj':j<xs.length+news.length:=by simpa using hj
   rw[Array.getElem?_append_left (by simp only[List.size_toArray,List.length_append,cellsE_len];omega),List.getElem?_toArray,←List.flatMap_append,cellsE_get _ j hj c hc]
end
section
open Go.RowKit Go.Sort
variable {n0:Nat}
def kop (k:Bool):Int:=if k then 5 else 6
def uop (k:Bool):Int:=if k then 1 else 2
def zop (k:Bool):Int:=if k then 2 else 1
def opW:Wf→Int
 | .tt=>1
 | .ff=>2
 | .is _ _=>3
 | .nis _ _=>4
 | .con k _=>kop k
 | .next _=>8
 | .unt _ _=>9
 | .rel _ _=>10
 | .yes _ _=>15
 | .snc k _ _ _=>if k then 16 else 17
theorem opW_eq {w0:World} {x:El n0 w0} {z:Wf} (h:treeE x=tr z):x.1.op=opW z:=by
 have h:Fs.cons x.1.op x.1.nm x.1.v x.1.bd x.1.args .nil=trC z .nil:=h
 cases z<;>simp only[trC,Fs.cons.injEq] at h<;>exact h.1
theorem argsW {w0:World} {x:El n0 w0} {k:Bool} {l:List Wf} (h:treeE x=tr (.con k l)):x.1.args=trs l:=by
 have h:Fs.cons x.1.op x.1.nm x.1.v x.1.bd x.1.args .nil=trC (.con k l) .nil:=h
 simp only[trC,Fs.cons.injEq] at h
 exact h.2.2.2.2.1
theorem notW {w0:World} {x:El n0 w0} {z:Wf} (h:treeE x=tr z):x.1.op=4→x.1.args.len≠0:=by
 have h:Fs.cons x.1.op x.1.nm x.1.v x.1.bd x.1.args .nil=trC z .nil:=h
 intro h4
 cases z with
 |nis nm v=>
  simp only[trC,Fs.cons.injEq] at h
  rw[h.2.2.2.2.1]
  simp[Fs.len]
 |con k l=>simp only[trC,Fs.cons.injEq] at h;have:=h.1;cases k<;>simp_all
 |snc k v a b=>simp only[trC,Fs.cons.injEq] at h;have:=h.1;cases k<;>simp_all
 |_=>simp only[trC,Fs.cons.injEq] at h;have:=h.1;omega
theorem flat_ways (k:Bool) (z:Wf):(∃l,z=.con k l∧opW z=kop k)∨(z=zero k∧opW z=zop k∧opW z≠kop k)∨(z=unit k∧opW z=uop k∧opW z≠kop k∧opW z≠zop k)∨(flat k z=[z]∧z≠zero k∧opW z≠kop k∧opW z≠zop k∧opW z≠uop k):=by
 cases z with
 |con k' l=>
  by_cases e:k'=k
  ·subst e;exact .inl ⟨l,rfl,rfl⟩
  ·refine .inr (.inr (.inr ⟨by simp[flat,e],by cases k<;>simp[zero],?_⟩))
   cases k<;>cases k'<;>simp_all [opW,kop,zop,uop]
 |tt=>cases k<;>simp[opW,kop,zop,uop,zero,unit]
 |ff=>cases k<;>simp[opW,kop,zop,uop,zero,unit]
 |snc k' v a b=>cases k<;>cases k'<;>simp[opW,kop,zop,uop,zero,flat,unit]
 |_=>cases k<;>simp[opW,kop,zop,uop,zero,flat,unit]
theorem parts_snoc (k:Bool) (L:List Wf) (z:Wf):parts k (L++[z])=parts k L++flat k z:=by simp[parts]
theorem negT_tr {z:Wf} {u:Fs} (h:negT (tr z)=some u):∃nm v,z=.nis nm v∧u=tr (.is nm v):=by
 cases z with
 |nis nm v=>exact⟨nm,v,rfl,by simpa[tr,trC,negT] using h.symm⟩
 |con k l=>cases l with
  |nil=>simp[tr,trC,trs,negT] at h
  |cons y l=>
   obtain⟨op,nm,v,bd,a,_,e⟩:=trC_cons y (trs l)
   cases k<;>simp[tr,trC,trs,e,negT] at h
 |next a=>
  obtain⟨op,nm,v,bd,a',e,_⟩:=trC_cons a .nil
  simp[tr,trC,e,negT] at h
 |unt a b=>
  obtain⟨op,nm,v,bd,a',_,e⟩:=trC_cons a (trC b .nil)
  simp[tr,trC,e,negT] at h
 |rel a b=>
  obtain⟨op,nm,v,bd,a',_,e⟩:=trC_cons a (trC b .nil)
  simp[tr,trC,e,negT] at h
 |yes v a=>
  obtain⟨op,nm,v,bd,a',e,_⟩:=trC_cons a .nil
  simp[tr,trC,e,negT] at h
 |snc k v a b=>
  obtain⟨op,nm,v,bd,a',_,e⟩:=trC_cons a (trC b .nil)
  cases k<;>simp[tr,trC,e,negT] at h
 |_=>simp[tr,trC,negT] at h
theorem Opp_tr (S:List Wf):Opp (S.map tr)↔opp S:=by
 constructor
 ·rintro⟨t,ht,u,h1,h2⟩
  rw[List.mem_map] at ht h2
  obtain⟨z,hz,rfl⟩:=ht
  obtain⟨nm,v,rfl,rfl⟩:=negT_tr h1
  obtain⟨y,hy,e⟩:=h2
  rw[tr_inj e] at hy
  exact⟨nm,v,hy,hz⟩
 ·rintro⟨nm,v,h1,h2⟩
  exact⟨tr (.nis nm v),List.mem_map_of_mem h2,tr (.is nm v),rfl,List.mem_map_of_mem h1⟩
theorem dist_srt {w0:World} {xs ys:List (El n0 w0)} {S:List Wf} (hxs:xs.map treeE=S.map tr) (hd:Dist xs ys):ys.map treeE=(srt ordF S).map tr:=by
 have hz:∀ts:List Fs,(∀t∈ts,t∈S.map tr)→∃zs:List Wf,ts=zs.map tr:=by
  intro ts
  induction ts with
  |nil=>exact fun _=>⟨[],rfl⟩
  |cons t ts ih=>
   intro h
   obtain⟨zs,rfl⟩:=ih (fun t ht=>h t (List.mem_cons_of_mem _ ht))
   obtain⟨z, -,rfl⟩:=List.mem_map.1 (h t (by simp))
   exact⟨z::zs,rfl⟩
 obtain⟨zs,e⟩:=hz (ys.map treeE) (fun t ht=>by rw[←hxs];exact(hd.2 t).1 ht)
 have hs:Srt ordF zs:=by
  have h1:(ys.map treeE).Pairwise (fun a b=>cmpF a b<0):=List.pairwise_map.2 hd.1
  rw[e,List.pairwise_map] at h1
  exact h1.imp (fun h=>decide_eq_true h)
 have:zs=srt ordF S:=srt_one ordF hs (srt_srt ordF S) (fun z=>by
  rw[mem_srt]
  have:=hd.2 (tr z)
  rw[e,hxs,List.mem_map,List.mem_map] at this
  constructor
  ·intro hz
   obtain⟨y,hy,e⟩:=this.1 ⟨z,hz,rfl⟩
   rw[tr_inj e] at hy;exact hy
  ·intro hz
   obtain⟨y,hy,e⟩:=this.2 ⟨z,hz,rfl⟩
   rw[tr_inj e] at hy;exact hy)
 rw[e,this]
theorem RowL.forest {w0 W:World} {blk:Nat} (hB:RowKit.Below w0.heap.size w0 W):∀(ys:List (El n0 w0)) (zs:List Wf) (o:Nat),ys.map treeE=zs.map tr→
  (∀j (h:j<ys.length) c v,(encE ys[j])[c]? =some v→W.cell? ⟨blk,o+j*5+c,none⟩=some v)→FAt W (trs zs) blk o∧PAt n0 W (trs zs) blk o
 |[],[],_,_,_=>⟨trivial,trivial⟩
 |[],_::_,_,h,_=>by simp at h
 |_::_,[],_,h,_=>by simp at h
 |y::ys,z::zs,o,h,hc=>by
  simp only[List.map_cons,List.cons.injEq] at h
  obtain⟨h1,h2⟩:=h
  obtain⟨i1,i2⟩:=RowL.forest hB ys zs (o+5) h2 (fun j hj c v hv=>by
   have:=hc (j+1) (by simpa using hj) c v (by simpa using hv)
   rwa[show o+(j+1)*5+c=o+5+j*5+c by omega] at this)
  obtain⟨op,nm,v,bd,a,e1,e2⟩:=trC_cons z (trs zs)
  have h1:Fs.cons y.1.op y.1.nm y.1.v y.1.bd y.1.args .nil=trC z .nil:=h1
  rw[e1] at h1
  simp only[Fs.cons.injEq,and_true] at h1
  obtain⟨rfl,rfl,rfl,rfl,rfl⟩:=h1
  obtain⟨hf,hp,hnm,hl,hcc,hn⟩:=y.2
  have hc0:=hc 0 (by simp)
  simp only[Nat.zero_mul,Nat.add_zero,List.getElem_cons_zero] at hc0
  simp only[trs,e2]
  have h4:=hc0 4 _ rfl
  refine⟨⟨hc0 0 _ rfl,hc0 1 _ rfl,hnm,hc0 2 _ rfl,hc0 3 _ rfl,hl,⟨y.1.a,y.1.c,h4,hcc,hf.keep hB⟩,i1⟩,⟨fun p o' l c' e h0=>?_,i2⟩⟩
  rw[h4] at e
  simp only[Option.some.injEq,Value.slice.injEq] at e
  exact hp.keep hf hB p o' e.1 h0
end
end Go.Proofs.YtckdgniecdfedaaGreatDoor
