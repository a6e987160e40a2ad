/- Lemmas on the way to the statement: Acts13, Acts13Open. -/
import Derived.Test.YtjgkegkinnlcoaaGreatDoorJ18
import Derived.Test.YtjgkegkinnlcoaaGreatDoorJ24
import Derived.Test.YtjgkegkinnlcoaaGreatDoorJ29
import Derived.SliceStrings
set_option linter.unusedSimpArgs false
set_option linter.unusedVariables false
namespace Go.Proofs.YtjgkegkinnlcoaaGreatDoor
open Go.RowKit Go.Maps Go.Joins
theorem addr_add (b o j:Nat):(⟨b,o,none⟩:Addr).add j=⟨b,o+j,none⟩:=by unfold Addr.add;split<;>simp_all
end Go.Proofs.YtjgkegkinnlcoaaGreatDoor
namespace Go.Proofs.YtjgkegkinnlcoaaGreatDoor
open Go.ChangeShapes Go.WideShapes Go.ChangeAt Go.RowKit Go.Deep Go.Joins
theorem bd_u8o {x:Int} (h:(Lit.int .u8 x).wf=true):0≤x∧x≤255:=by
 simp[Lit.wf,IntKind.min,IntKind.max,IntKind.signed,IntKind.bits] at h
 omega
section
variable {H:Type} {enc:TypeId × Value→H} {W:World}
theorem list_of {α:Type}: ∀(n:Nat) (P:Nat→α→Prop),(∀i,i<n→ ∃x,P i x)→ ∃l:List α,l.length=n∧ ∀(i:Nat) (x:α),l[i]? =some x→P i x
 |0,P,_=>⟨[],rfl,fun i x h=>by simp at h⟩
 |n+1,P,h=>by
  obtain⟨l,hl,hP⟩:=list_of n P (fun i hi=>h i (by omega))
  obtain⟨x,hx⟩:=h n (by omega)
  refine⟨l++[x],by simp[hl],fun i y hy=> ?_⟩
  by_cases hi:i<n
  ·rw[List.getElem?_append_left (by omega)] at hy;exact hP i y hy
  ·have hlt:=(List.getElem?_eq_some_iff.1 hy).1
   simp[hl] at hlt
   obtain rfl:i=n:=by omega
   rw[List.getElem?_append_right (by omega),hl] at hy
   simp at hy;subst hy;exact hx
end
end Go.Proofs.YtjgkegkinnlcoaaGreatDoor
