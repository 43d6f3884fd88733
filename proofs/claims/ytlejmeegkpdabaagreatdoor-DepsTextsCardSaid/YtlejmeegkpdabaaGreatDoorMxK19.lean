/- The proof of a statement, some of its texts joined in build order: part K19. -/
import Derived.DeepKeys4
import Derived.Lib.SlBytesRow
import Derived.Lib.BufferRead
import Derived.Test.YtlejmeegkpdabaaGreatDoorMxK6
import Derived.Test.YtlejmeegkpdabaaGreatDoorMxK7
namespace Go.Proofs.YtlejmeegkpdabaaGreatDoor
open Go Go.RowKit Go.Maps Go.WideMaps
def u8E:Enc UInt8 where
 size:=1
 pos:=by decide
 R _ _ vs x:=vs=[.int .u8 x.toNat]
 len h:=by rw[h];rfl
 one h:=by rw[h];simp[Value.oneCell']
 mono h _ _:=h
theorem Iy{S:Nat→Prop}{w:World}{xs:List (List Value)}{l:List UInt8}(hl:xs.length=l.length)(hx:∀i (h1:i<xs.length) (h2:i<l.length),u8E.R S w xs[i] l[i]):xs=l.map (fun x=>[Value.int .u8 x.toNat]):=by
 apply List.ext_getElem
 ·simp[hl]
 intro i h1 h2
 have:=hx i h1 (by simpa using h2)
 rw[List.getElem_map];exact this
theorem Iw(l:List UInt8):(l.map (fun x=>[Value.int .u8 x.toNat])).flatten=l.map (fun x=>Value.int .u8 x.toNat):=by
 induction l with
 |nil=>rfl
 |cons x r a=>simp[a]
theorem OwnL.bytes{S:Nat→Prop}{w:World}{base:Nat}{e:TypeId}{g n cap:Nat}{l:List UInt8}(h:OwnL u8E S w base e (.slice (some ⟨g,0,none⟩) n cap) l)(hn:n=l.length):Lib.Bytes w g 0 ⟨l.toArray⟩:=by
 subst hn
 obtain⟨j,b,f,hx⟩:=h
 rw[Iy f hx,Iw]at b
 intro i c
 have a:i<l.length:=by simpa[ByteArray.size]using c
 rw[Nat.zero_add,b.cellAt i (by show i<l.length*1;omega)]
 simp[a,ByteArray.getElem_eq_getElem_data]
end Go.Proofs.YtlejmeegkpdabaaGreatDoor
