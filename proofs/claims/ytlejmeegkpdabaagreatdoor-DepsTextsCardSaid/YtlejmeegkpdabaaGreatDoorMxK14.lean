/- The proof of a statement, some of its texts joined in build order: part K14. -/
import Derived.Test.YtlejmeegkpdabaaGreatDoorMxK7
import Derived.ProofKit
import Derived.Deep.Slices
import Derived.OpenShut
import Derived.Deep.Strs
namespace Go.Proofs.YtlejmeegkpdabaaGreatDoor
open Go Go.RowKit Go.ChangeShapes Go.WideShapes Go.ChangeAt Go.Deep
def Gives{α:Type}(P:Program)(t:TypeId)(E:Enc α):Prop:=
 ∀(H:Type) (enc:TypeId×Value→H) (w:World) (base:Nat) (spare:Nat→Bool) (held:Bool) (n:Nat) (cs:List Value) (x:DataW H×List MemPlace),DataW.trod enc P w base spare held n t cs=some x→∃a:α,E.R (fun _=>True) w cs a
section
variable {P:Program}{t e:TypeId}{α β:Type}
theorem Gg{x:Int}(h:(Lit.int .i64 x).wf=true):aE x:=by
 have a:IntKind.i64.min=-9223372036854775808:=rfl
 have b:IntKind.i64.max=9223372036854775807:=rfl
 simp only[Lit.wf,Bool.and_eq_true,decide_eq_true_eq]at h
 unfold aE
 omega
theorem Di(ht:P.underlying t=some (.int .i64)):Gives P t intE:=by
 intro H f w b a c n g x h
 obtain⟨v,rfl,_,hw⟩:=DataW.trod_int ht h
 exact⟨v,rfl,Gg hw⟩
theorem Dk(ht:P.underlying t=some .string):Gives P t strE:=by
 intro H f w b a c n g x h
 obtain⟨s,rfl,_,hs⟩:=DataW.trod_string ht h
 exact⟨s,rfl,by unfold aB;unfold maxLen at hs;omega⟩
theorem lz{E:Enc α}(ht:P.underlying t=some (.slice e))(hc:P.cellsOf e=E.size)(g:Gives P e E):Gives P t (cI E):=by
 intro H G w s r A n Z x h
 rcases open_slice ht h with⟨rfl,_⟩|⟨a,len,F,m,X,D,Y,rfl,hb,U,W,L,_,I⟩
 ·exact⟨[],none,0,rfl, .empty⟩
 have V:len≤m:=by rw[L];split<;>omega
 have l:∀i:Fin len,∃vs:List Value,∃y:α,vs.length=E.size∧(∀j (B:j<vs.length),w.cell? ((a.add (i.1*E.size)).add j)=some vs[j])∧E.R (fun _=>True) w vs y:=by
  intro i
  obtain⟨u,O,Q⟩:=I i.1 (by omega)
  obtain⟨y,hy⟩:=g H G w s r A X u _ Q
  obtain⟨_,N,S⟩:=World.cells?_some O
  refine⟨u,y,by rw[N,hc],fun j B=> ?_,hy⟩
  rw[←hc,S j (by rw[←N];exact B)]
  simp[B]
 refine⟨List.ofFn (fun i:Fin len=>(Classical.choose (Classical.choose_spec (l i)))),some a,F,by simp,?_⟩
 refine⟨by simpa using U,by unfold aB;unfold maxLen at W;omega,fun h=>by simp at h,fun M=> ?_⟩
 have K:0<len:=by
  rcases Nat.eq_zero_or_pos len with v|v
  ·subst v;simp at M
  exact v
 obtain⟨b,q,C⟩:=a
 have c:=Classical.choose_spec (Classical.choose_spec (l ⟨0,K⟩))
 have p:C=none:=by
  have:=World.cell?_spot (c.2.1 0 (by rw[c.1];exact E.pos))
  simpa[Addr.add]using this
 subst p
 have f:∀k j:Nat,((⟨b,q,none⟩:Addr).add k).add j=⟨b,q+k+j,none⟩:=by
  intro k j;rw[add_add];unfold Addr.add;split
  ·rename_i v;simp at v⊢<;>omega
  simp[Nat.add_assoc]
 have z:b<w.heap.size:=by
  have:=c.2.1 0 (by rw[c.1];exact E.pos)
  rw[f]at this
  exact World.block_lt_of_cell? w _ this
 refine⟨b,q,rfl,trivial,z,fun i T=> ?_⟩
 have J:i<len:=by simpa using T
 have o:=Classical.choose_spec (Classical.choose_spec (l ⟨i,J⟩))
 refine⟨_,o.1,fun j B=> ?_,?_⟩
 ·rw[←f];exact o.2.1 j B
 rw[List.getElem_ofFn];exact o.2.2
theorem Dj{E:Enc α}{F:Enc β}{f0 f1:Field}(ht:P.underlying t=some (.struct #[f0,f1])) (h0:f0.offset=0) (h1:f1.offset=E.size) (hc:P.cellsOf t=E.size+F.size)
  (hc0:P.cellsOf f0.type=E.size) (hc1:P.cellsOf f1.type=F.size) (g0:Gives P f0.type E) (g1:Gives P f1.type F):Gives P t (dC E F):=by
 intro H i w f c g n j x h
 obtain⟨q,r,k,_,p,m,o⟩:=trod_struct2 ht h
 obtain⟨a,ha⟩:=g0 H i w f c g k _ _ m
 obtain⟨b,l⟩:=g1 H i w f c g k _ _ o
 refine⟨(a,b),_,_,?_,ha,l⟩
 rw[h0,h1,hc0,hc1,List.drop_zero]
 have:(j.drop E.size).take F.size=j.drop E.size:=List.take_of_length_le (by simp;omega)
 rw[this,List.take_append_drop]
theorem Gives.arg{E:Enc α}(g:Gives P t (cI E)){H:Type}{enc:TypeId×Value→H}{w:World}{base:Nat}{spare:Nat→Bool}{held:Bool}{v:Value}{d:DataW H}{p:List MemPlace}
  (h:DataW.Trod enc P w base spare held t v d p) (hv:∃a n c,v= .slice a n c):∃(l:List α) (a:Option Addr) (c:Nat),v= .slice a l.length c∧Sl E (fun _=>True) w a c l:=by
 obtain⟨n,i⟩:=h
 obtain⟨l,a,c,b,f⟩:=g H enc w base spare held n _ _ i
 obtain⟨j,m,k,rfl⟩:=hv
 simp[Value.cells]at b
 obtain⟨rfl,rfl,rfl⟩:=b
 exact⟨l,_,_,rfl,f⟩
end
end Go.Proofs.YtlejmeegkpdabaaGreatDoor
