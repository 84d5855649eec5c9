/- The orders are such as are asked. -/
import Derived.Test.YtckdgniecdfedaaGreatDoorAmOrd
import Derived.Test.YtckdgniecdfedaaGreatDoorRows
open Go Go.AM Go.Proofs Go.Proofs.YtckdgniecdfedaaGreatDoor
namespace Go.AM
theorem ordP0:ordsB Tryz.prog ord0=true:=by kernel_rfl
theorem ordP1:ordsB Tryz.prog ord1=true:=by kernel_rfl
theorem ordP2:ordsB Tryz.prog ord2=true:=by kernel_rfl
theorem ordP3:ordsB Tryz.prog ord3=true:=by kernel_rfl
theorem ordP4:ordsB Tryz.prog ord4=true:=by kernel_rfl
theorem ordP5:ordsB Tryz.prog ord5=true:=by kernel_rfl
theorem ordP6:ordsB Tryz.prog ord6=true:=by kernel_rfl
theorem ordP7:ordsB Tryz.prog ord7=true:=by kernel_rfl
theorem ordP8:ordsB Tryz.prog ord8=true:=by kernel_rfl
theorem ordP9:ordsB Tryz.prog ord9=true:=by kernel_rfl
theorem ordP10:ordsB Tryz.prog ord10=true:=by kernel_rfl
theorem ordP11:ordsB Tryz.prog ord11=true:=by kernel_rfl
theorem ordP12:ordsB Tryz.prog ord12=true:=by kernel_rfl
theorem ordP13:ordsB Tryz.prog ord13=true:=by kernel_rfl
theorem ordsB_append {P:Program}{a b:OrdT}(h1:ordsB P a=true)(h2:ordsB P b=true):ordsB P (a++b)=true:=by
 unfold ordsB at *
 rw[List.all_append,h1,h2];rfl
theorem ordsOk:ordsB Tryz.prog orders=true:=(ordsB_append ordP0 (ordsB_append ordP1 (ordsB_append ordP2 (ordsB_append ordP3 (ordsB_append ordP4 (ordsB_append ordP5 (ordsB_append ordP6 (ordsB_append ordP7 (ordsB_append ordP8 (ordsB_append ordP9 (ordsB_append ordP10 (ordsB_append ordP11 (ordsB_append ordP12 ordP13)))))))))))))
end Go.AM
