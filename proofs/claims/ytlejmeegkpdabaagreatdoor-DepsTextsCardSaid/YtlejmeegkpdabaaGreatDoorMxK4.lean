/- The proof of a statement, some of its texts joined in build order: part K4. -/
import Derived.WalkKit
import Derived.Deep.RegionHeld3
namespace Go.Proofs.YtlejmeegkpdabaaGreatDoor
open Go Go.RowKit
section
variable {P:Program}{Q:Exit→Act→World→Prop}{md:Region.Mode}{S:World→Prop}{l:List Oper}{listed:Array Bool}{fuel:Nat}{a:Act}{w:World}
theorem cK(i:Nat)(d:Option Tmp){oi:Oper}{v:Value}(hi:l[i]?=some oi)(hd:oi.dst=d)
  (hs:Region.noSelect l.toArray=true) (hf:Region.free md l.toArray listed i=true) (hr:(Region.ready md l.toArray listed).contains i=true)
  (hQ:∀c a w,Q (.panic c) (a.put d v) w→Q (.panic c) a w) (hg:Region.wanted oi (yielded l.toArray a.tmps)=true) (hy:∀w,S w→(execOp a.eval oi).run P w= .ok (.value v) w) (hS:S w)
  (h:wpAnyH P md l.toArray Q S fuel (listed.setIfInBounds i true) (a.put d v) w):wpAnyH P md l.toArray Q S (fuel+1) listed a w:=by
 subst hd
 exact wpAnyH_take (by simpa using hi) hs hf hr hQ (.inl ⟨hg,hy⟩) hS h
theorem GG(i:Nat)(d:Option Tmp){oi:Oper}(hi:l[i]?=some oi)(hd:oi.dst=d)
  (hs:Region.noSelect l.toArray=true) (hf:Region.free md l.toArray listed i=true) (hr:(Region.ready md l.toArray listed).contains i=true)
  (hQ:∀c a w,Q (.panic c) (a.put d undef) w→Q (.panic c) a w) (hg:Region.wanted oi (yielded l.toArray a.tmps)=false) (hS:S w)
  (h:wpAnyH P md l.toArray Q S fuel (listed.setIfInBounds i true) (a.put d undef) w):wpAnyH P md l.toArray Q S (fuel+1) listed a w:=by
 subst hd
 exact wpAnyH_take (by simpa using hi) hs hf hr hQ (.inr ⟨hg,rfl⟩) hS h
theorem bI(i:Nat){o:Oper}(hi:l[i]?=some o)(hr:Region.ready md l.toArray listed=[i])
  (h:∀K':Act→World→Prop,Shut (∀a w,S w→(S w→wpAnyH P md l.toArray Q S fuel (listed.setIfInBounds i true) a w)→K' a w)→if Region.wanted o (yielded l.toArray a.tmps)=true then Oper.wp P o a w K' Q else K' (a.put o.dst undef) w):
  wpAnyH P md l.toArray Q S (fuel+1) listed a w:=
 wpAnyH_ready hr (by simp) (AllReadyH.cons (by simpa using hi) h AllReadyH.nil)
end
theorem gj{P:Program}{w:World}{o:Oper}{a:Act}{K:Act→World→Prop}{Q:Exit→Act→World→Prop}(s x:Operand)(t:TypeId)
  (ho:o.op= .call {callee:= .builtin .append,args:= #[s,x],argTypes:= #[t,t]}) {vs vx:Value} (hs:a.eval s=vs) (hx:a.eval x=vx) {v':Value} {w':World}
  (hr:(Builtin.append_ #[t,t] o.type #[vs,vx]).run P w= .ok v' w') (h:K (a.put o.dst v') w'):Oper.wp P o a w K Q:=by
 unfold Oper.wp execOp
 simp only[ho,resolve,invoke,builtin,Sem.run_bind,Sem.run_pure,Result.andThen_ok,List.map_toArray,List.map_cons,List.map_nil,hs,hx,hr]
 exact h
section
variable {P:Program}{Q:Exit→Act→World→Prop}{md:Region.Mode}{S:World→Prop}{l:List Oper}{listed:Array Bool}{fuel:Nat}{a a':Act}{w:World}
theorem ak(i d:Nat){oi:Oper}{v:Value}(hS:S w)(hy:∀w,S w→(execOp a.eval oi).run P w= .ok (.value v) w)(h:wpAnyH P md l.toArray Q S fuel (listed.setIfInBounds i true) a' w)
  (hi:l[i]?=some oi:=by rfl) (hd:oi.dst=some d:=by rfl) (hs:Region.noSelect l.toArray=true:=by kernel_rfl) (hf:Region.free md l.toArray listed i=true:=by kernel_rfl) (hr:(Region.ready md l.toArray listed).contains i=true:=by kernel_rfl)
  (hQ:∀c a w,Q (.panic c) (a.put (some d) v) w→Q (.panic c) a w:=by exact fun _ _ _ h=>h) (hg:Region.wanted oi (yielded l.toArray a.tmps)=true:=by rfl)
  (ha:a.put (some d) v=a':=by first|(simp only[Act.put,List.setIfInBounds_toArray,List.set_cons_zero,List.set_cons_succ];done)|(simp only[Act.put,List.setIfInBounds_toArray,List.set_cons_zero,List.set_cons_succ];rfl)):wpAnyH P md l.toArray Q S (fuel+1) listed a w:=
 cK i (some d) hi hd hs hf hr hQ hg hy hS (by rw[ha];exact h)
theorem hZ(i d:Nat){oi:Oper}(hS:S w)(h:wpAnyH P md l.toArray Q S fuel (listed.setIfInBounds i true) a' w)
  (hi:l[i]?=some oi:=by rfl) (hd:oi.dst=some d:=by rfl) (hs:Region.noSelect l.toArray=true:=by kernel_rfl) (hf:Region.free md l.toArray listed i=true:=by kernel_rfl) (hr:(Region.ready md l.toArray listed).contains i=true:=by kernel_rfl)
  (hQ:∀c a w,Q (.panic c) (a.put (some d) undef) w→Q (.panic c) a w:=by exact fun _ _ _ h=>h) (hg:Region.wanted oi (yielded l.toArray a.tmps)=false:=by rfl)
  (ha:a.put (some d) undef=a':=by first|(simp only[Act.put,List.setIfInBounds_toArray,List.set_cons_zero,List.set_cons_succ];done)|(simp only[Act.put,List.setIfInBounds_toArray,List.set_cons_zero,List.set_cons_succ];rfl)):wpAnyH P md l.toArray Q S (fuel+1) listed a w:=
 GG i (some d) hi hd hs hf hr hQ hg hS (by rw[ha];exact h)
end
end Go.Proofs.YtlejmeegkpdabaaGreatDoor
