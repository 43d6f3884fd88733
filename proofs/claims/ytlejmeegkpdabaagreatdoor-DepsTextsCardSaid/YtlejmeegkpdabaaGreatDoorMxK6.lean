/- The proof of a statement, some of its texts joined in build order: part K6. -/
import Derived.Test.YtlejmeegkpdabaaGreatDoorMxK1
import Derived.Maps.OwnSet
import Derived.Maps.OwnOps
import Derived.Maps.Views
import Derived.StringKeys
namespace Go.Proofs.YtlejmeegkpdabaaGreatDoor
open Go Go.RowKit Go.Maps Go.WideMaps
theorem my{x:Int}(h:aE x):(Lit.int .i64 x).wf=true:=WalkArith.wf_i64 h
theorem kx(l:List UInt8):WideAt.IsKeyLit (.string l):=by first|exact trivial|simp[WideAt.IsKeyLit]
theorem nN(x:Int):WideAt.IsKeyLit (.int .i64 x):=by first|exact trivial|simp[WideAt.IsKeyLit]
theorem oZ{x y:ByteArray}(h:x≠y):Lit.string x.data.toList≠Lit.string y.data.toList:=by
 intro e
 cases x;cases y
 simp only[Lit.string.injEq,Array.toList_inj]at e
 exact h (by rw[e])
theorem wU{x y:Int}(h:x≠y):Lit.int .i64 x≠Lit.int .i64 y:=by
 intro e;simp at e;exact h e
def BMap(P:Program)(tk te:TypeId)(w:World)(b n:Nat)(f:ByteArray→Bool):Prop:=
 ∃D:DataW Unit,w.ownsMap P tk (plainElem P te) b n D∧Tidy D∧∀x:ByteArray,D.atKey (.string x.data.toList) (.lit (.bool false))= .lit (.bool (f x))
section
variable {P:Program}{tm tk te:TypeId}{w:World}{b n:Nat}{f:ByteArray→Bool}
theorem BMap.made(w:World):BMap P tk te (w.alloc (.map #[] 0)) w.heap.size 0 (fun _=>false):=
 ⟨.map [],World.ownsMap_made _ _ _ _,tidy_empty,fun _=>rfl⟩
theorem BMap.look(h:BMap P tk te w b n f)(ht:P.underlying tm=some (.map tk te))(hk:P.underlying tk=some .string)(he:P.underlying te=some .bool)
  (hz:(zeroValue te).run P w= .ok (.bool false) w) (x:ByteArray) (hx:x.size≤maxLen):(Instr.lookup tm (.map (some b)) (.string x) false).run P w= .ok (.bool (f x)) w:=by
 obtain⟨D,g,_,hf⟩:=h
 obtain⟨v,i,a,c⟩:=g.lookup (string_keyed hk) ht hz (plainElem_bool he false) (keyOf_string_mk hk hx)
 rw[hf x]at c
 rw[a]
 unfold plainElem at c
 rw[he]at c
 cases v<;>simp at c
 rw[c.1]
theorem BMap.store(h:BMap P tk te w b n f)(ht:P.underlying tm=some (.map tk te))(hk:P.underlying tk=some .string)(he:P.underlying te=some .bool)(hn:n<maxLen)
  (x:ByteArray) (hx:x.size≤maxLen) (y:Bool):∃w',(Instr.mapUpdate tm (.map (some b)) (.string x) (.bool y)).run P w= .ok () w'∧BMap P tk te w' b (n+1) (fun z=>if z=x then y else f z)∧w.grownBy w' (some b):=by
 obtain⟨D,j,c,hf⟩:=h
 obtain⟨w',a,g,hg⟩:=j.update (string_keyed hk) ht hn (keyOf_string_mk hk hx) (plainElem_bool he y)
 refine⟨w',a,⟨_,g,c.put (kx _) _,fun z=> ?_⟩,hg⟩
 by_cases i:z=x
 ·subst i;rw[atKey_put_same c.isMap (kx _)];simp
 rw[atKey_put_other (oZ i),hf z];simp only[if_neg i]
theorem BMap.lt(h:BMap P tk te w b n f):b<w.heap.size:=by obtain⟨D,a,_⟩:=h;exact a.lt
theorem BMap.same{w':World}(h:BMap P tk te w b n f)(hb:w'.heap[b]?=w.heap[b]?):BMap P tk te w' b n f:=by
 obtain⟨D,⟨c,a,g,r⟩,i,hf⟩:=h
 exact⟨D,⟨c,a,hb.trans g,r⟩,i,hf⟩
theorem BMap.below{w':World}{B:Nat}(h:BMap P tk te w b n f)(hB:Below B w w')(hb:b<B):BMap P tk te w' b n f:=h.same (hB.block b hb)
end
def IMap(P:Program)(tk te:TypeId)(w:World)(b n:Nat)(f:Int→Option Int):Prop:=
 ∃D:DataW Unit,w.ownsMap P tk (plainElem P te) b n D∧Tidy D∧size D=n∧∀x:Int,has D (.int .i64 x)=(f x).isSome∧D.atKey (.int .i64 x) (.lit (.int .i64 0))= .lit (.int .i64 ((f x).getD 0))
section
variable {P:Program}{tm tk te:TypeId}{w:World}{b n:Nat}{f:Int→Option Int}
theorem IMap.made(w:World):IMap P tk te (w.alloc (.map #[] 0)) w.heap.size 0 (fun _=>none):=
 ⟨.map [],World.ownsMap_made _ _ _ _,tidy_empty,rfl,fun _=>⟨rfl,rfl⟩⟩
theorem IMap.look(h:IMap P tk te w b n f)(ht:P.underlying tm=some (.map tk te))(hk:P.underlying tk=some (.int .i64))(he:P.underlying te=some (.int .i64))
  (hz:(zeroValue te).run P w= .ok (.int .i64 0) w) (x:Int) (hx:aE x):(Instr.lookup tm (.map (some b)) (.int .i64 x) false).run P w= .ok (.int .i64 ((f x).getD 0)) w:=by
 obtain⟨D,i,_,_,hf⟩:=h
 obtain⟨c,a,g,_⟩:=i.lookup_int (int_keyed hk) ht he hz (keyOf_int_mk hk (my hx))
 rw[(hf x).2]at g
 simp at g
 rw[a,g]
theorem IMap.look_ok(h:IMap P tk te w b n f)(ht:P.underlying tm=some (.map tk te))(hk:P.underlying tk=some (.int .i64))(he:P.underlying te=some (.int .i64))
  (hz:(zeroValue te).run P w= .ok (.int .i64 0) w) (x:Int) (hx:aE x):(Instr.lookup tm (.map (some b)) (.int .i64 x) true).run P w= .ok (.tuple #[.int .i64 ((f x).getD 0), .bool (f x).isSome]) w:=by
 obtain⟨D,i,_,_,hf⟩:=h
 obtain⟨v,k,a,j⟩:=i.look_ok (int_keyed hk) ht hz (plainElem_int he (by decide)) (keyOf_int_mk hk (my hx))
 obtain⟨c,rfl,g,_⟩:=plainElem_int_inv he j
 rw[(hf x).2]at g
 simp at g
 rw[a,(hf x).1,g.1]
theorem IMap.len(h:IMap P tk te w b n f)(ht:P.underlying tm=some (.map tk te))(ty:TypeId):(Builtin.len_ #[tm] ty #[.map (some b)]).run P w= .ok (.int .i64 n) w:=by
 obtain⟨D,a,_,hs,_⟩:=h
 rw[a.len ht ty,hs]
theorem IMap.store(h:IMap P tk te w b n f)(ht:P.underlying tm=some (.map tk te))(hk:P.underlying tk=some (.int .i64))(he:P.underlying te=some (.int .i64))(hn:n<maxLen)
  (x:Int) (hx:aE x) (y:Int) (hy:aE y) (hnew:f x=none):∃w',(Instr.mapUpdate tm (.map (some b)) (.int .i64 x) (.int .i64 y)).run P w= .ok () w'∧IMap P tk te w' b (n+1) (fun z=>if z=x then some y else f z)∧w.grownBy w' (some b):=by
 obtain⟨D,j,a,hs,hf⟩:=h
 obtain⟨w',c,i,hg⟩:=j.update (int_keyed hk) ht hn (keyOf_int_mk hk (my hx)) (plainElem_int he (my hy))
 refine⟨w',c,⟨_,i,a.put (nN _) _,?_,fun z=> ?_⟩,hg⟩
 ·rw[size_put a,(hf x).1,hnew];simp[hs]
 by_cases g:z=x
 ·subst g;rw[atKey_put_same a.isMap (nN _),has_put_same a.isMap (nN _)];simp
 rw[atKey_put_other (wU g),has_put_other (wU g)];simp only[if_neg g];exact hf z
theorem IMap.lt(h:IMap P tk te w b n f):b<w.heap.size:=by obtain⟨D,a,_⟩:=h;exact a.lt
theorem IMap.same{w':World}(h:IMap P tk te w b n f)(hb:w'.heap[b]?=w.heap[b]?):IMap P tk te w' b n f:=by
 obtain⟨D,⟨c,a,g,r⟩,i,hf⟩:=h
 exact⟨D,⟨c,a,hb.trans g,r⟩,i,hf⟩
theorem IMap.below{w':World}{B:Nat}(h:IMap P tk te w b n f)(hB:Below B w w')(hb:b<B):IMap P tk te w' b n f:=h.same (hB.block b hb)
end
def SMap(P:Program)(tk te:TypeId)(w:World)(b M n:Nat)(f:ByteArray→Bool):Prop:=
 ∃D:DataW Unit,w.ownsMap P tk (plainElem P te) b M D∧Tidy D∧size D=n∧∀x:ByteArray,has D (.string x.data.toList)=f x∧D.atKey (.string x.data.toList) (.lit (.bool false))= .lit (.bool (f x))
section
variable {P:Program}{tm tk te:TypeId}{w:World}{b M n:Nat}{f:ByteArray→Bool}
theorem SMap.made(w:World):SMap P tk te (w.alloc (.map #[] 0)) w.heap.size 0 0 (fun _=>false):=
 ⟨.map [],World.ownsMap_made _ _ _ _,tidy_empty,rfl,fun _=>⟨rfl,rfl⟩⟩
theorem SMap.bmap(h:SMap P tk te w b M n f):BMap P tk te w b M f:=by
 obtain⟨D,a,c,-,hf⟩:=h
 exact⟨D,a,c,fun x=>(hf x).2⟩
theorem SMap.look(h:SMap P tk te w b M n f)(ht:P.underlying tm=some (.map tk te))(hk:P.underlying tk=some .string)(he:P.underlying te=some .bool)
  (hz:(zeroValue te).run P w= .ok (.bool false) w) (x:ByteArray) (hx:x.size≤maxLen):(Instr.lookup tm (.map (some b)) (.string x) false).run P w= .ok (.bool (f x)) w:=h.bmap.look ht hk he hz x hx
theorem SMap.len(h:SMap P tk te w b M n f)(ht:P.underlying tm=some (.map tk te))(ty:TypeId):(Builtin.len_ #[tm] ty #[.map (some b)]).run P w= .ok (.int .i64 n) w:=by
 obtain⟨D,a,_,hs,_⟩:=h
 rw[a.len ht ty,hs]
theorem SMap.store(h:SMap P tk te w b M n f)(ht:P.underlying tm=some (.map tk te))(hk:P.underlying tk=some .string)(he:P.underlying te=some .bool)(hn:M<maxLen)
  (x:ByteArray) (hx:x.size≤maxLen):∃w',(Instr.mapUpdate tm (.map (some b)) (.string x) (.bool true)).run P w= .ok () w'∧SMap P tk te w' b (M+1) (if f x=true then n else n+1) (fun z=>if z=x then true else f z)∧w.grownBy w' (some b):=by
 obtain⟨D,j,a,hs,hf⟩:=h
 obtain⟨w',c,i,hg⟩:=j.update (string_keyed hk) ht hn (keyOf_string_mk hk hx) (plainElem_bool he true)
 refine⟨w',c,⟨_,i,a.put (kx _) _,?_,fun z=> ?_⟩,hg⟩
 ·rw[size_put a,(hf x).1,hs]
 by_cases g:z=x
 ·subst g;rw[atKey_put_same a.isMap (kx _),has_put_same a.isMap (kx _)];simp
 rw[atKey_put_other (oZ g),has_put_other (oZ g)];simp only[if_neg g];exact hf z
theorem SMap.lt(h:SMap P tk te w b M n f):b<w.heap.size:=by obtain⟨D,a,_⟩:=h;exact a.lt
theorem SMap.same{w':World}(h:SMap P tk te w b M n f)(hb:w'.heap[b]?=w.heap[b]?):SMap P tk te w' b M n f:=by
 obtain⟨D,⟨c,a,g,r⟩,i,hf⟩:=h
 exact⟨D,⟨c,a,hb.trans g,r⟩,i,hf⟩
theorem SMap.below{w':World}{B:Nat}(h:SMap P tk te w b M n f)(hB:Below B w w')(hb:b<B):SMap P tk te w' b M n f:=h.same (hB.block b hb)
end
structure KeyK (κ:Type) (P:Program) (tk:TypeId) where
 lit:κ→Lit
 val:κ→Value
 ok:κ→Prop
 keyed:Keyed P tk
 key:∀x,ok x→keyOf P tk (val x)=some (lit x)
 isKey:∀x,WideAt.IsKeyLit (lit x)
 inj:∀x y,lit x=lit y→x=y
def Ed{P:Program}{tk:TypeId}(hk:P.underlying tk=some (.int .i64)):KeyK Int P tk where
 lit x:= .int .i64 x
 val x:= .int .i64 x
 ok:=aE
 keyed:=int_keyed hk
 key _ h:=keyOf_int_mk hk (my h)
 isKey:=nN
 inj x y h:=by simpa using h
def zo{P:Program}{tk:TypeId}(hk:P.underlying tk=some .string):KeyK ByteArray P tk where
 lit s:= .string s.data.toList
 val s:= .string s
 ok s:=s.size≤maxLen
 keyed:=string_keyed hk
 key _ h:=keyOf_string_mk hk h
 isKey _:=kx _
 inj _ _ h:=Classical.byContradiction fun e=>oZ e h
abbrev heldV:Value→Option (DataW Value×List MemPlace):=fun v=>some (.held v,[])
def VMap{κ:Type}{P:Program}{tk:TypeId}(K:KeyK κ P tk)(w:World)(b n:Nat)(f:κ→Option Value):Prop:=
 ∃D:DataW Value,w.ownsMap P tk heldV b n D∧Tidy D∧size D=n∧∀x,has D (K.lit x)=(f x).isSome∧∀z,D.atKey (K.lit x) (.held z)= .held ((f x).getD z)
section
variable {κ:Type}{P:Program}{tm tk te:TypeId}{K:KeyK κ P tk}{w:World}{b n:Nat}{f:κ→Option Value}
theorem VMap.made(K:KeyK κ P tk)(w:World):VMap K (w.alloc (.map #[] 0)) w.heap.size 0 (fun _=>none):=
 ⟨.map [],World.ownsMap_made _ _ _ _,tidy_empty,rfl,fun _=>⟨rfl,fun _=>rfl⟩⟩
theorem VMap.look(h:VMap K w b n f)(ht:P.underlying tm=some (.map tk te)){z:Value}(hz:(zeroValue te).run P w= .ok z w)(x:κ)(hx:K.ok x):(Instr.lookup tm (.map (some b)) (K.val x) false).run P w= .ok ((f x).getD z) w:=by
 obtain⟨D,g,_,_,hf⟩:=h
 obtain⟨v,i,a,c⟩:=g.lookup K.keyed ht hz rfl (K.key x hx)
 rw[(hf x).2 z]at c
 simp only[Option.some.injEq,Prod.mk.injEq,DataW.held.injEq]at c
 rw[a,c.1]
theorem VMap.look_ok(h:VMap K w b n f)(ht:P.underlying tm=some (.map tk te)){z:Value}(hz:(zeroValue te).run P w= .ok z w)(x:κ)(hx:K.ok x):(Instr.lookup tm (.map (some b)) (K.val x) true).run P w= .ok (.tuple #[(f x).getD z, .bool (f x).isSome]) w:=by
 obtain⟨D,g,_,_,hf⟩:=h
 obtain⟨v,i,a,c⟩:=g.look_ok K.keyed ht hz rfl (K.key x hx)
 rw[(hf x).2 z]at c
 simp only[Option.some.injEq,Prod.mk.injEq,DataW.held.injEq]at c
 rw[a,c.1,(hf x).1]
theorem VMap.len(h:VMap K w b n f)(ht:P.underlying tm=some (.map tk te))(ty:TypeId):(Builtin.len_ #[tm] ty #[.map (some b)]).run P w= .ok (.int .i64 n) w:=by
 obtain⟨D,a,_,hs,_⟩:=h
 rw[a.len ht ty,hs]
theorem VMap.store[DecidableEq κ](h:VMap K w b n f)(ht:P.underlying tm=some (.map tk te))(hn:n<maxLen)(x:κ)(hx:K.ok x)(y:Value):
  ∃w',(Instr.mapUpdate tm (.map (some b)) (K.val x) y).run P w= .ok () w'∧VMap K w' b (if(f x).isSome=true then n else n+1) (fun z=>if z=x then some y else f z)∧w.grownBy w' (some b):=by
 obtain⟨D,s,a,hs,hf⟩:=h
 obtain⟨w',j,m,hg⟩:=s.update K.keyed ht hn (K.key x hx) (val:=y) (d:= .held y) (ps:=[]) rfl
 have g:=size_put (k:=K.lit x) a (DataW.held y)
 rw[(hf x).1,hs]at g
 refine⟨w',j,⟨_,?_,a.put (K.isKey _) _,g,fun z=> ?_⟩,hg⟩
 ·rw[←g]
  obtain⟨o,c,q,F,r,p⟩:=m
  refine⟨o,c,q,F,?_,p⟩
  have t:size (D.put (K.lit x) (.held y))=o.size:=by rw[p];simp[size,length_sorted]
  omega
 by_cases l:z=x
 ·subst l
  rw[has_put_same a.isMap (K.isKey _)]
  exact⟨by simp,fun z=>by rw[atKey_put_same a.isMap (K.isKey _)];simp⟩
 have i:K.lit z≠K.lit x:=fun e=>l (K.inj _ _ e)
 rw[has_put_other i]
 exact⟨by simp only[if_neg l];exact(hf z).1,fun y=>by rw[atKey_put_other i];simp only[if_neg l];exact(hf z).2 y⟩
theorem VMap.lt(h:VMap K w b n f):b<w.heap.size:=by obtain⟨D,a,_⟩:=h;exact a.lt
theorem VMap.same{w':World}(h:VMap K w b n f)(hb:w'.heap[b]?=w.heap[b]?):VMap K w' b n f:=by
 obtain⟨D,⟨c,a,g,r⟩,i,hf⟩:=h
 exact⟨D,⟨c,a,hb.trans g,r⟩,i,hf⟩
theorem VMap.below{w':World}{B:Nat}(h:VMap K w b n f)(hB:Below B w w')(hb:b<B):VMap K w' b n f:=h.same (hB.block b hb)
end
end Go.Proofs.YtlejmeegkpdabaaGreatDoor
