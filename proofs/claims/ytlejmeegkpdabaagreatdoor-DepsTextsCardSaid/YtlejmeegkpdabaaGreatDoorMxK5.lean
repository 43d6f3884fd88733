/- The proof of a statement, some of its texts joined in build order: part K5. -/
import Derived.WalkKit
import Derived.RegionTactic
namespace Go.Proofs.YtlejmeegkpdabaaGreatDoor
open Go
section
variable {P:Program}{ops:Array Oper}{Q:Exit→Act→World→Prop}{md:Region.Mode}
theorem Io{i:Nat}(d:Nat)(v:Value){oi:Oper}{fuel:Nat}{listed:Array Bool}{a:Act}{w:World}(hi:ops[i]?=some oi)(hd:oi.dst=some d)
  (hs:Region.noSelect ops=true) (hf:Region.free md ops listed i=true) (hr:(Region.ready md ops listed).contains i=true)
  (hQ:∀c a w,Q (.panic c) (a.put (some d) v) w→Q (.panic c) a w) (hw:Region.wanted oi (yielded ops a.tmps)=true) (hy:∀w,(execOp a.eval oi).run P w= .ok (.value v) w)
  (h:wpAny P md ops Q fuel (listed.setIfInBounds i true) (a.put (some d) v) w):wpAny P md ops Q (fuel+1) listed a w:=
 wpAny_take hi hs hf hr (by rw[hd];exact hQ) (.inl ⟨hw,hy⟩) (by rw[hd];exact h)
theorem Hz{i:Nat}(d:Nat){oi:Oper}{fuel:Nat}{listed:Array Bool}{a:Act}{w:World}(hi:ops[i]?=some oi)(hd:oi.dst=some d)
  (hs:Region.noSelect ops=true) (hf:Region.free md ops listed i=true) (hr:(Region.ready md ops listed).contains i=true)
  (hQ:∀c a w,Q (.panic c) (a.put (some d) undef) w→Q (.panic c) a w) (hw:Region.wanted oi (yielded ops a.tmps)=false)
  (h:wpAny P md ops Q fuel (listed.setIfInBounds i true) (a.put (some d) undef) w):wpAny P md ops Q (fuel+1) listed a w:=
 wpAny_take hi hs hf hr (by rw[hd];exact hQ) (.inr ⟨hw,rfl⟩) (by rw[hd];exact h)
end
section
variable {P:Program}{Q:Exit→Act→World→Prop}{md:Region.Mode}{l:List Oper}{listed:Array Bool}{fuel:Nat}{a a':Act}{w:World}
theorem am(i d:Nat)(v:Value){oi:Oper}(h:wpAny P md l.toArray Q fuel (listed.setIfInBounds i true) a' w)
  (hi:l[i]?=some oi:=by rfl) (hd:oi.dst=some d:=by rfl) (hs:Region.noSelect l.toArray=true:=by kernel_rfl) (hf:Region.free md l.toArray listed i=true:=by kernel_rfl) (hr:(Region.ready md l.toArray listed).contains i=true:=by kernel_rfl)
  (hQ:∀c a w,Q (.panic c) (a.put (some d) v) w→Q (.panic c) a w:=by exact fun _ _ _ h=>h) (hw:Region.wanted oi (yielded l.toArray a.tmps)=true:=by kernel_rfl)
  (hy:∀w,(execOp a.eval oi).run P w= .ok (.value v) w:=by intro w;first|kernel_rfl|(go_simp;done))
  (ha:a.put (some d) v=a':=by first|(simp only[Act.put,List.setIfInBounds_toArray,List.set_cons_zero,List.set_cons_succ];done)|(simp only[Act.put,List.setIfInBounds_toArray,List.set_cons_zero,List.set_cons_succ];rfl)):wpAny P md l.toArray Q (fuel+1) listed a w:=
 Io (i:=i) d v (by rw[List.getElem?_toArray];exact hi) hd hs hf hr hQ hw hy (by rw[ha];exact h)
theorem aQ(i d:Nat){oi:Oper}(h:wpAny P md l.toArray Q fuel (listed.setIfInBounds i true) a' w)
  (hi:l[i]?=some oi:=by rfl) (hd:oi.dst=some d:=by rfl) (hs:Region.noSelect l.toArray=true:=by kernel_rfl) (hf:Region.free md l.toArray listed i=true:=by kernel_rfl) (hr:(Region.ready md l.toArray listed).contains i=true:=by kernel_rfl)
  (hQ:∀c a w,Q (.panic c) (a.put (some d) undef) w→Q (.panic c) a w:=by exact fun _ _ _ h=>h) (hw:Region.wanted oi (yielded l.toArray a.tmps)=false:=by kernel_rfl)
  (ha:a.put (some d) undef=a':=by first|(simp only[Act.put,List.setIfInBounds_toArray,List.set_cons_zero,List.set_cons_succ];done)|(simp only[Act.put,List.setIfInBounds_toArray,List.set_cons_zero,List.set_cons_succ];rfl)):wpAny P md l.toArray Q (fuel+1) listed a w:=
 Hz (i:=i) d (by rw[List.getElem?_toArray];exact hi) hd hs hf hr hQ hw (by rw[ha];exact h)
theorem a7(i:Nat){oi:Oper}(h:∀K':Act→World→Prop,(∀a w,wpAny P md l.toArray Q fuel (listed.setIfInBounds i true) a w→K' a w)→if Region.wanted oi (yielded l.toArray a.tmps)=true then Oper.wp P oi a w K' Q else K' (a.put oi.dst undef) w)
  (ho:l.toArray[i]?=some oi:=by rfl) (hr:Region.ready md l.toArray listed=[i]:=by kernel_rfl):wpAny P md l.toArray Q (fuel+1) listed a w:=
 wpAny_ready hr (by simp) (AllReady.cons ho h AllReady.nil)
end
end Go.Proofs.YtlejmeegkpdabaaGreatDoor
