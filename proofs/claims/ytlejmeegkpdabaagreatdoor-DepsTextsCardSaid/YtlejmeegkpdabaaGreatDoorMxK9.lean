/- The proof of a statement, some of its texts joined in build order: part K9. -/
import Derived.Test.YtlejmeegkpdabaaGreatDoorMxK4
import Derived.OrdersIn
import Derived.TacticsIn
namespace Go.Proofs.YtlejmeegkpdabaaGreatDoor
open Go Go.RowKit
section
variable {F:Fence}{n:Nat}{P:Program}{Q:Exit→Act→World→Prop}{md:Region.Mode}{l:List Oper}{listed:Array Bool}{fuel:Nat}{a:Act}{w:World}
def NextIn(F:Fence)(n:Nat)(P:Program)(Q:Exit→Act→World→Prop)(ops:Array Oper)(o:Oper)(a:Act)(w:World)(K:Act→World→Prop):Prop:=
 if Region.wanted o (yielded ops a.tmps)=true then Oper.wpIn F n P o a w K Q else(∀f,o.about P w a.eval=some f→F.fn f)∧K (a.put o.dst undef) w
theorem fm(i:Nat){o:Oper}(hi:l[i]?=some o)(hr:Region.ready md l.toArray listed=[i])
  (h:∀K':Act→World→Prop,Shut (∀a w,wpAnyIn F n P md l.toArray Q fuel (listed.setIfInBounds i true) a w→K' a w)→NextIn F n P Q l.toArray o a w K'):wpAnyIn F n P md l.toArray Q (fuel+1) listed a w:=
 wpAnyIn_ready hr (by simp) (AllReadyIn.cons (by simpa using hi) h AllReadyIn.nil)
theorem mh(i j:Nat){o o':Oper}(hi:l[i]?=some o)(hj:l[j]?=some o')(hr:Region.ready md l.toArray listed=[i,j])
  (h:∀K':Act→World→Prop,Shut (∀a w,wpAnyIn F n P md l.toArray Q fuel (listed.setIfInBounds i true) a w→K' a w)→NextIn F n P Q l.toArray o a w K')
  (h':∀K':Act→World→Prop,Shut (∀a w,wpAnyIn F n P md l.toArray Q fuel (listed.setIfInBounds j true) a w→K' a w)→NextIn F n P Q l.toArray o' a w K'):wpAnyIn F n P md l.toArray Q (fuel+1) listed a w:=
 wpAnyIn_ready hr (by simp) (AllReadyIn.cons (by simpa using hi) h (AllReadyIn.cons (by simpa using hj) h' AllReadyIn.nil))
theorem NextIn.value{ops:Array Oper}{o:Oper}{K:Act→World→Prop}(hg:Region.wanted o (yielded ops a.tmps)=true)(hd:∀c,o.op≠ .defer c){v:Value}{w':World}(hab:o.about P w a.eval=none)
  (hr:(execOp a.eval o).run P w= .ok (.value v) w') (h:K (a.put o.dst v) w'):NextIn F n P Q ops o a w K:=by
 unfold NextIn Oper.wpIn
 rw[if_pos hg,Oper.semAt_eq _ _ _ hd,hr,hab]
 exact⟨fun f hf=>(by cases hf),h⟩
theorem NextIn.skip{ops:Array Oper}{o:Oper}{K:Act→World→Prop}(hg:Region.wanted o (yielded ops a.tmps)=true)(hd:∀c,o.op≠ .defer c){w':World}(hab:o.about P w a.eval=none)
  (hr:(execOp a.eval o).run P w= .ok .skip w') (h:K (a.put o.dst undef) w'):NextIn F n P Q ops o a w K:=by
 unfold NextIn Oper.wpIn
 rw[if_pos hg,Oper.semAt_eq _ _ _ hd,hr,hab]
 exact⟨fun f hf=>(by cases hf),h⟩
theorem NextIn.append{ops:Array Oper}{o:Oper}{K:Act→World→Prop}(hg:Region.wanted o (yielded ops a.tmps)=true)(s x:Operand)(t:TypeId)
  (ho:o.op= .call {callee:= .builtin .append,args:= #[s,x],argTypes:= #[t,t]}) {vs vx:Value} (hs:a.eval s=vs) (hx:a.eval x=vx) {v':Value} {w':World}
  (hr:(Builtin.append_ #[t,t] o.type #[vs,vx]).run P w= .ok v' w') (h:K (a.put o.dst v') w'):NextIn F n P Q ops o a w K:=by
 refine NextIn.value hg (fun c=>by rw[ho];simp) (v:=v') (w':=w') ?_ ?_ h
 ·unfold Oper.about
  simp only[ho,resolve,Sem.run_pure,List.map_toArray,List.map_cons,List.map_nil]
  rfl
 unfold execOp
 simp only[ho,resolve,invoke,builtin,Sem.run_bind,Sem.run_pure,Result.andThen_ok,List.map_toArray,List.map_cons,List.map_nil,hs,hx,hr]
theorem NextIn.call{ops:Array Oper}{o:Oper}{K:Act→World→Prop}(hg:Region.wanted o (yielded ops a.tmps)=true)(hd:∀c,o.op≠ .defer c)(hfn:∀f,F.fn f)(hdp:F.depth=none){f:Nat}{args:Array Value}
  (hr:(execOp a.eval o).run P w= .ok (.enter f args) w) (h:CallsIn F (n-1) P f args w fun e w'=>∃v,e= .returned v∧K (a.put o.dst v) w'):NextIn F n P Q ops o a w K:=by
 unfold NextIn Oper.wpIn
 rw[if_pos hg,Oper.semAt_eq _ _ _ hd,hr]
 refine⟨fun f _=>hfn f,fun e=>(by rw[hdp]at e;cases e),h.mono fun e w' b=> ?_⟩
 obtain⟨v,rfl,g⟩:=b
 exact g
end
end Go.Proofs.YtlejmeegkpdabaaGreatDoor
