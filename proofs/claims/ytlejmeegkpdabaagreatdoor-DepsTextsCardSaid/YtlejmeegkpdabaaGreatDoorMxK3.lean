/- The proof of a statement, some of its texts joined in build order: part K3. -/
import Derived.Lib.IndexMore
import Derived.Lib.IndexLaws
namespace Go.Proofs.YtlejmeegkpdabaaGreatDoor
open Go
theorem xD{s sub:List UInt8}{j:Nat}(h:Lib.occAt s sub j=true){k:Nat}(hk:k<sub.length):s[j+k]?=some sub[k]:=by
 unfold Lib.occAt at h
 rw[List.isPrefixOf_iff_prefix]at h
 obtain⟨t,a⟩:=h
 have:(s.drop j)[k]?=some sub[k]:=by rw[←a,List.getElem?_append_left hk,List.getElem?_eq_getElem hk]
 rwa[List.getElem?_drop]at this
theorem FA(a sub r:List UInt8):Lib.occAt (a++(sub++r)) sub a.length=true:=by
 unfold Lib.occAt
 rw[List.drop_left',List.isPrefixOf_iff_prefix]
 ·exact List.prefix_append _ _
 rfl
theorem ua{a sub r:List UInt8}(h:∀j,j<a.length→Lib.occAt (a++(sub++r)) sub j=false):Lib.cut (a++(sub++r)) sub=(a,r,true):=by
 have b:=Lib.index_first (s:=a++(sub++r)) (sub:=sub) (i:=a.length) (by simp) (FA a sub r) h
 unfold Lib.cut
 rw[b,if_pos (by omega),Int.toNat_natCast,List.take_left',←List.append_assoc,List.drop_left']
 ·simp
 rfl
theorem Cj{a p r:List UInt8}{z:UInt8}(h:z∉a++p):Lib.cut (a++((p++[z])++r)) (p++[z])=(a,r,true):=by
 refine ua fun j c=> ?_
 cases b:Lib.occAt (a++((p++[z])++r)) (p++[z]) j with
 |false=>rfl
 |true=>
  have:=xD b (k:=p.length) (by simp)
  rw[List.getElem_append_right (Nat.le_refl _)]at this
  simp only[Nat.sub_self,List.getElem_cons_zero]at this
  rw[show a++((p++[z])++r)=(a++p)++(z::r)by simp,List.getElem?_append_left (by rw[List.length_append];omega)]at this
  exact(h (List.mem_of_getElem? this)).elim
theorem Ci{a p r:List UInt8}{z:UInt8}(h:z∉a):Lib.cut (a++((z::p)++r)) (z::p)=(a,r,true):=by
 refine ua fun j b=> ?_
 cases c:Lib.occAt (a++((z::p)++r)) (z::p) j with
 |false=>rfl
 |true=>
  have:=xD c (k:=0) (by simp)
  simp only[Nat.add_zero,List.getElem_cons_zero]at this
  rw[List.getElem?_append_left b]at this
  exact(h (List.mem_of_getElem? this)).elim
end Go.Proofs.YtlejmeegkpdabaaGreatDoor
