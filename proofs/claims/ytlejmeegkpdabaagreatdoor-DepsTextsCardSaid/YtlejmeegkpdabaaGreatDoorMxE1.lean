/- The proof of a statement, some of its texts joined in build order: part E1. -/
import Derived.Sort.KeysCollected
import Derived.Lib.OwnBridge
import Derived.Test.YtlejmeegkpdabaaGreatDoorMxK12
import Derived.Test.YtlejmeegkpdabaaGreatDoorMxD
import Derived.Lib.SliceRun
import Derived.Test.YtlejmeegkpdabaaGreatDoorMxR
set_option maxHeartbeats 4000000
namespace Go.Proofs.YtlejmeegkpdabaaGreatDoor
open Go Go.RowKit Go.Maps Go.Sort Go.Shelf
theorem If{l:List ByteArray}{xs:List (List Value)}{T:Nat→Prop}{w:World}(hl:xs.length=l.length)(hx:∀i (h1:i<xs.length) (h2:i<l.length),strE.R T w xs[i] l[i]):xs=l.map (fun x=>[.string x])∧∀x∈l,x.size≤aB:=by
 constructor
 ·apply List.ext_getElem (by simpa using hl)
  intro i h1 h2
  rw[List.getElem_map]
  exact(hx i h1 (by omega)).1
 intro x a
 obtain⟨i,b,rfl⟩:=List.getElem_of_mem a
 exact(hx i (by omega) b).2
theorem uF(l:List ByteArray):(l.map (fun x=>[Value.string x])).flatten=l.map Value.string:=by
 induction l with
 |nil=>rfl
 |cons x r a=>simp[a]
theorem OwnS.row{w:World}{base:Nat}{v:Value}{l:List ByteArray}(h:OwnS w base v l):w.ownsRow base 9 1 v l.length (l.map .string)∧∀x∈l,x.size≤aB:=by
 obtain⟨c,a,b,hx⟩:=h
 obtain⟨rfl,hr⟩:=If b hx
 rw[uF]at a
 exact⟨a,hr⟩
theorem OwnS.of_row{w:World}{base:Nat}{v:Value}{l:List ByteArray}(h:w.ownsRow base 9 1 v l.length (l.map .string))(hr:∀x∈l,x.size≤aB):OwnS w base v l:=
 ⟨l.map (fun x=>[.string x]),by rw[uF];exact h,by simp,fun i b a=>⟨by simp,hr _ (List.getElem_mem a)⟩⟩
abbrev bs (x:ByteArray):List UInt8:=x.data.toList
def eo(x:List UInt8):ByteArray:=⟨x.toArray⟩
theorem n9(x:ByteArray):eo (bs x)=x:=by unfold eo bs;simp
theorem pM(x:List UInt8):bs (eo x)=x:=by unfold eo bs;simp
theorem qY(L:List (List UInt8)):L.map encStr=(L.map eo).map Value.string:=by
 rw[List.map_map];rfl
theorem zp{H:Type}{P:Program}{k:TypeId}{R:Value→Option (DataW H×List MemPlace)}{w:World}{b n:Nat}{D0:DataW H}(hown:w.ownsMap P k R b n D0)(K:Keyed P k)(hk:P.underlying k=some .string):
  (strKeys D0).Nodup∧∀x,x∈strKeys D0↔has D0 (.string x)=true:=by
 obtain⟨h,r,m,_⟩:=hown.entries K
 obtain⟨i,f,j⟩:=hown.keysOf
 obtain rfl:h=i:=by rw[r]at f;simpa using f
 subst r
 have hs:∀p∈h,∃x,p.1= .string x:=fun p t=>by obtain⟨v,u⟩:=j p t;obtain⟨x,_,hx,_⟩:=Maps.keyOf_str hk u;exact⟨x,hx⟩
 constructor
 ·show(h.map fun p=>strOf p.1).Nodup
  refine List.pairwise_map.2 (m.imp_of_mem fun {p q} c o l e=>l ?_)
  obtain⟨a,ha⟩:=hs p c
  obtain⟨b,s⟩:=hs q o
  rw[ha,s]at e⊢
  exact congrArg _ e
 intro x
 rw[has_eq,List.any_eq_true]
 show x∈(h.map fun p=>strOf p.1)↔_
 rw[List.mem_map]
 constructor
 ·rintro⟨p,c,rfl⟩
  obtain⟨a,ha⟩:=hs p c
  exact⟨p,c,by rw[ha];simp[Lit.sameKey,strOf]⟩
 rintro⟨p,c,g⟩
 obtain⟨a,ha⟩:=hs p c
 rw[ha]at g
 exact⟨p,c,by rw[ha];simpa[Lit.sameKey,strOf]using g⟩
theorem HJ{ss ks:List (List UInt8)}(hS:ss.Perm ks)(hn:ks.Nodup):AscN ((ss.mergeSort fun x y=>decide (x≤y)).map eo)∧∀x:ByteArray,x∈(ss.mergeSort fun x y=>decide (x≤y)).map eo↔bs x∈ks:=
 ⟨tD (hS.nodup_iff.2 hn),fun _=>mem_sort.trans hS.mem_iff⟩
theorem HM(m:Nat):AnyZ.SortsIn Tryz.prog yR Fence.wide m:=
 ⟨fun c g a i W h b f=>callsIn_wide.2 (Any.slices_Sort_string oQ c g a i W h b f),
  fun p a W=>callsIn_wide.2 (Any.slices_Sort_string_none oQ p a W)⟩
def SortedOut(w:World)(D:ByteArray→Bool)(e:Ending)(w':World):Prop:=∃v L,e= .returned v∧OwnS w' w.heap.size v L∧AscN L∧(∀x,x∈L↔D x=true)∧Below w.heap.size w w'
theorem zg{g:FuncId}{H:Type}{R:Value→Option (DataW H×List MemPlace)}{D0:DataW H}{w:World}{b nn mt:Nat}(hown:w.ownsMap Tryz.prog 9 R b nn D0)(hn:Maps.size D0≤1000000)
  (hseq:SeqGives Fence.wide 2 Tryz.prog g #[.pointer (some ⟨w.heap.size,0,none⟩)] encStr (fun ss=>ss.Perm (strKeys D0)) (Maps.size D0) (w.alloc (.cells #[.map (some b)] mt)))
  (eg:∀args w,(callFunc g args).run Tryz.prog w= .ok (.enter g args) w):
  Calls Tryz.prog 83 #[.func (.func g) #[] #[.pointer (some ⟨w.heap.size,0,none⟩)]] (w.alloc (.cells #[.map (some b)] mt)) (SortedOut w (fun x=>has D0 (.string (bs x)))):=by
 obtain⟨f,a⟩:=zp hown (string_keyed Tryz.underlying9) Tryz.underlying9
 have m:=AnyZ.sorted_in Hi Fence.wide 5 trivial trivial trivial trivial rfl (by omega) (HM _) (enters_of Tryz.func92 (by kernel_rfl) rfl) g #[.pointer (some ⟨w.heap.size,0,none⟩)] trivial eg _ _ (by unfold maxLen;omega) (by omega) _ hseq
 refine(callsIn_wide.1 m).mono ?_
 rintro e w' ⟨v,ss,rfl,hS,c,j,l⟩
 obtain⟨k,i⟩:=HJ hS f
 have h:∀x∈strKeys D0,x.length≤maxLen:=strKeys_le hown Tryz.underlying9
 refine⟨v,_,rfl,OwnS.of_row ?_ ?_,k,fun x=>(i x).trans (a _),?_⟩
 ·rw[List.length_map,List.length_mergeSort,←qY]
  exact ownsRow_base_a c (by simp)
 ·intro x hx
  have:=h _ ((i x).1 hx)
  show x.size≤aB
  have e:(bs x).length=x.size:=pJ x
  rw[e]at this
  unfold maxLen at this
  unfold aB
  omega
 exact((Below.refl _ w).alloc (Nat.le_refl _) _).trans (l.mono (by simp))
theorem Ev{w:World}{b nn:Nat}{H:Type}{R:Value→Option (DataW H×List MemPlace)}{D0:DataW H}(hown:w.ownsMap Tryz.prog 9 R b nn D0):
  SeqGives Fence.wide 2 Tryz.prog 132 #[.pointer (some ⟨w.heap.size,0,none⟩)] encStr (fun ss=>ss.Perm (strKeys D0)) (Maps.size D0) (w.alloc (.cells #[.map (some b)] 82)):=by
 have c:=hown.lt
 exact AnyZ.keys_gives (ρ:=yO) {yN with} Fence.wide _ trivial rfl (by omega) w.heap.size b nn D0 _ (by simp) (by simp) (by
   obtain⟨g,a,i,f,hs,h⟩:=hown
   exact⟨g,a,(Below.heap_alloc _ _ b c).trans i,f,hs,h⟩)
theorem Ex{w:World}{b nn:Nat}{H:Type}{R:Value→Option (DataW H×List MemPlace)}{D0:DataW H}(hown:w.ownsMap Tryz.prog 9 R b nn D0):
  SeqGives Fence.wide 2 Tryz.prog 168 #[.pointer (some ⟨w.heap.size,0,none⟩)] encStr (fun ss=>ss.Perm (strKeys D0)) (Maps.size D0) (w.alloc (.cells #[.map (some b)] 93)):=by
 have c:=hown.lt
 exact AnyZ.keys_gives (ρ:=yQ) {yP with} Fence.wide _ trivial rfl (by omega) w.heap.size b nn D0 _ (by simp) (by simp) (by
   obtain⟨g,a,i,f,hs,h⟩:=hown
   exact⟨g,a,(Below.heap_alloc _ _ b c).trans i,f,hs,h⟩)
theorem Eu(mb:Option Nat)(W:World):Calls Tryz.prog 84 #[.map mb] W fun e w'=>e= .returned (.func (.func 132) #[] #[.pointer (some ⟨W.heap.size,0,none⟩)])∧w'=W.alloc (.cells #[.map mb] 82):=
 callsIn_wide.1 (AnyZ.keys_in yN Fence.wide 5 trivial rfl mb W)
theorem Ew(mb:Option Nat)(W:World):Calls Tryz.prog 122 #[.map mb] W fun e w'=>e= .returned (.func (.func 168) #[] #[.pointer (some ⟨W.heap.size,0,none⟩)])∧w'=W.alloc (.cells #[.map mb] 93):=
 callsIn_wide.1 (AnyZ.keys_in yP Fence.wide 5 trivial rfl mb W)
theorem BA{B:Nat}{w0 w:World}(h:Below B w0 w)(hB:B≤w.heap.size)(os:Array Obj):Below B w0 (Go.Sort.grow w os):=
 ⟨h.os,h.tape,h.output,by simpa[Go.Sort.grow]using Nat.le_trans h.size (Nat.le_add_right _ _),fun k a=>by
  rw[←h.block k a]
  simp only[Go.Sort.grow]
  rw[Array.getElem?_append_left (by omega)]⟩
theorem FQ{w:World}{base:Nat}{e:TypeId}{v:Value}{n:Nat}{xs:List Value}(h:w.ownsRow base e 1 v n xs)(os:Array Obj):(Go.Sort.grow w os).ownsRow base e 1 v n xs:=by
 refine⟨h.1,?_⟩
 rcases h.2 with i|⟨g,b,c,f,j,hg,a⟩
 ·exact .inl i
 refine .inr ⟨g,b,c,f,j,?_,a⟩
 simp only[Go.Sort.grow]
 rw[Array.getElem?_append_left (Array.getElem?_eq_some_iff.1 hg).1];exact hg
theorem HI{w:World}{base:Nat}{v:Value}{l:List ByteArray}(h:OwnS w base v l)(hl:l.length≤1000000)(hb:base≤w.heap.size):
  Calls Tryz.prog 92 #[v] w fun e w'=>e= .returned (.tuple #[])∧OwnS w' base v (((l.map bs).mergeSort fun x y=>decide (x≤y)).map eo)∧Below base w w':=by
 obtain⟨o,hr⟩:=OwnS.row h
 by_cases r:v= .slice none 0 0
 ·subst r
  have i:l=[]:=by
   rcases o.2 with⟨_,i⟩|⟨g,b,t,e,-⟩
   ·exact List.length_eq_zero_iff.1 i
   simp at e
  subst i
  refine(Any.slices_Sort_string_none oQ none 0 w).mono ?_
  rintro e w' ⟨rfl,rfl⟩
  exact⟨rfl,by simpa using h,Below.refl _ _⟩
 have a:w.ownsRow base 9 1 v (l.map bs).length ((l.map bs).map encStr):=by
  rw[List.length_map,qY,show(l.map bs).map eo=l by rw[List.map_map,show(eo∘bs)=id from funext n9,List.map_id]];exact o
 obtain⟨g,b,rfl,hg,j,D,C,A,u⟩:=Lib.holds_of_ownsRow a r
 have m:=Any.slices_Sort_string oQ g 0 b (l.map bs) w u j (by rw[List.length_map];omega)
 rw[List.length_map]at m
 rw[List.length_map]at a⊢
 refine m.mono ?_
 rintro e w' ⟨rfl,n,s,rfl⟩
 have f:((l.map bs).mergeSort fun x y=>decide (x≤y)).length=l.length:=by rw[List.length_mergeSort,List.length_map]
 have p:=Lib.ownsRow_putRow (q:=n) (k:=l.length) (ys:=(l.map bs).mergeSort fun x y=>decide (x≤y)) a f (Nat.le_refl _)
 rw[List.take_of_length_le (by omega)]at p
 have c:=Lib.below_putRow (enc:=encStr) (q:=n) (d:=((l.map bs).mergeSort fun x y=>decide (x≤y)).toArray) (Below.refl base w) hg
 refine⟨rfl,OwnS.of_row ?_ (fun x hx=> ?_),?_⟩
 ·rw[List.length_map,f,←qY]
  exact FQ p s
 ·obtain⟨y,hy,rfl⟩:=List.mem_map.1 hx
  obtain⟨z,B,rfl⟩:=List.mem_map.1 (List.mem_mergeSort.1 hy)
  rw[n9]
  exact hr z B
 exact BA c (Nat.le_trans hb c.size) s
structure DOp (B:Nat) (w:World) (xb:Nat) (s:Sg) (l:List Ent) (sa:Option Addr) (sc:Nat) (la:Option Addr) (lc bm:Nat):Prop where
 le:B≤w.heap.size
 lt:xb<B
 ok:bz s l=true
 q0:w.cell? ⟨xb,0,none⟩=some (.slice sa s.length sc)
 q1:w.cell? ⟨xb,1,none⟩=some (.slice la l.length lc)
 q2:w.cell? ⟨xb,2,none⟩=some (.map (some bm))
 hb:bm<B
 hS:Sign (fun b=>b<B) w sa sc s
 hL:LibL (fun b=>b<B) w la lc l
 hM:sM w bm l
theorem DLib.op{B xb:Nat}{w:World}{s:Sg}{l:List Ent}(h:DLib B w xb s l):∃sa sc la lc bm,DOp B w xb s l sa sc la lc bm:=by
 obtain⟨b,c,a,sa,sc,la,lc,bm,k,m,n,f,g,i,j⟩:=h
 exact⟨sa,sc,la,lc,bm,b,c,a,k,m,n,f,g,i,j⟩
theorem DOp.lib{B xb:Nat}{w:World}{s:Sg}{l:List Ent}{sa:Option Addr}{sc:Nat}{la:Option Addr}{lc bm:Nat}(h:DOp B w xb s l sa sc la lc bm):DLib B w xb s l:=⟨h.le,h.lt,h.ok,sa,sc,la,lc,bm,h.q0,h.q1,h.q2,h.hb,h.hS,h.hL,h.hM⟩
section
variable {B xb:Nat}{w w':World}{s:Sg}{l:List Ent}{sa:Option Addr}{sc:Nat}{la:Option Addr}{lc bm:Nat}
theorem DOp.below(h:DOp B w xb s l sa sc la lc bm)(hb:Below B w w'):DOp B w' xb s l sa sc la lc bm:=by
 have hA:Agree (fun b=>b<B) w w':= .of_below hb (fun b h _=>h)
 obtain⟨n,a,c⟩:=h.hM
 exact⟨Nat.le_trans h.le hb.size,h.lt,h.ok,(hb.cell (p:=⟨xb,0,none⟩) h.lt).trans h.q0,(hb.cell (p:=⟨xb,1,none⟩) h.lt).trans h.q1,(hb.cell (p:=⟨xb,2,none⟩) h.lt).trans h.q2,h.hb,h.hS.same hA,h.hL.same hA,n,a,c.below hb h.hb⟩
theorem DOp.call(h:DOp B w xb s l sa sc la lc bm)(hb:Below w.heap.size w w'):DOp B w' xb s l sa sc la lc bm:=h.below (hb.mono h.le)
theorem DOp.look(h:DOp B w xb s l sa sc la lc bm)(x:ByteArray)(hx:x.size≤aB):(Instr.lookup 93 (.map (some bm)) (.string x) true).run Tryz.prog w= .ok (.tuple #[.int .i64 (((aG l x).getD 0:Nat):Int), .bool (aG l x).isSome]) w:=by
 obtain⟨n,_,b⟩:=h.hM
 have:=b.look_ok (tm:=93) Tryz.underlying93 (kg w) x (fA hx)
 have e:(eH l x).getD (.int .i64 0)= .int .i64 (((aG l x).getD 0:Nat):Int):=by unfold eH;cases aG l x<;>rfl
 have a:(eH l x).isSome=(aG l x).isSome:=by unfold eH;cases aG l x<;>rfl
 rw[e,a]at this
 exact this
end
theorem zV{l:List Ent}{n:ByteArray}(h:aG l n=none):bB l n=[]:=by unfold bB;rw[h]
theorem IK{l:List Ent}{n:ByteArray}{i:Nat}(h:aG l n=some i)(hi:i<l.length):bB l n=ae l[i]:=by
 unfold bB
 rw[h]
 simp only[List.getD_eq_getElem?_getD,List.getElem?_eq_getElem hi,Option.getD_some]
theorem IM{B xb:Nat}{w:World}{s:Sg}{l:List Ent}(h:DLib B w xb s l)(n:ByteArray)(hn:n.size≤aB):
  ∃a c,Sl strE (fun b=>b<B) w a c (bB l n)∧∀W,Below B w W→Calls Tryz.prog 125 #[.pointer (some ⟨xb,0,none⟩), .string n] W fun e w'=>e= .returned (.slice a (bB l n).length c)∧W=w':=by
 obtain⟨Q,R,N,O,K,m⟩:=h.op
 cases g:aG l n with
 |none=>
  refine⟨none,0,by rw[zV g];exact Sl.empty,fun W k=> ?_⟩
  have f:=m.below k
  have H:=f.q2
  have j:=f.look n hn
  rw[g]at j
  rw[zV g]
  simp only[Option.getD_none,Option.isSome_none]at j
  clear f m h g k
  go_enter Tryz.func125,Tryz.ntmps125
  go_wp2_with fail
  go_ret
  exact⟨rfl,rfl⟩
 |some i=>
  obtain⟨t,-⟩:=gx g
  obtain⟨b,q,I,L,v,x,J,M,rfl,o,C,D,E,u,G,S,T,y,r,z⟩:=m.hL.ent i t
  rw[IK g t]
  refine⟨v,x,r,fun W k=> ?_⟩
  have f:=m.below k
  have P:=f.q1
  have H:=f.q2
  have j:=f.look n hn
  rw[g]at j
  simp only[Option.getD_some,Option.isSome_some]at j
  have F:=(k.cell (p:=⟨b,q+i*5+3,none⟩) o).trans u
  have A:(i:Int)<(l.length:Int):=by omega
  clear f m h g k C D E u G y r z
  go_enter Tryz.func125,Tryz.ntmps125
  go_wp2_with fail
  go_ret
  exact⟨rfl,rfl⟩
theorem Bz{B xb:Nat}{w:World}{s:Sg}{l:List Ent}(h:DLib B w xb s l)(i:Nat)(hi:i<l.length):
  Calls Tryz.prog 138 #[.pointer (some ⟨xb,0,none⟩), .int .i64 i] w fun e w'=>e= .returned (.bool (decide (ai l[i]=[])))∧w=w':=by
 obtain⟨I,J,E,F,y,a⟩:=h.op
 obtain⟨b,o,u,z,v,A,x,C,rfl,k,p,q,r,t,G,K,L,g,j,c⟩:=a.hL.ent i hi
 have H:=a.q1
 have m:(i:Int)<(l.length:Int):=by omega
 have D:=c.le
 have f:decide (ai l[i]=[])=((((ai l[i]).length:Nat):Int)==0):=by rw[Bool.eq_iff_iff,decide_eq_true_eq,beq_iff_eq,←List.length_eq_zero_iff];omega
 rw[f]
 clear f a h p q r t g j c
 generalize (ai l[i]).length=n at*
 go_enter Tryz.func138,Tryz.ntmps138
 go_wp2_with fail
 go_ret
 exact⟨rfl,rfl⟩
def AC(s:Sg)(l:List Ent)(n:ByteArray)(w:World)(e:Ending)(w':World):Prop:=
 Below w.heap.size w w'∧((bz s l=false∧e= .returned (.tuple #[.pointer none, .int .i64 0, .int .i64 1]))∨(bz s l=true∧aG l n=none∧e= .returned (.tuple #[.pointer none, .int .i64 0, .int .i64 5]))∨
  (bz s l=true∧∃i xb,aG l n=some i∧w.heap.size≤xb∧e= .returned (.tuple #[.pointer (some ⟨xb,0,none⟩), .int .i64 (i:Nat), .int .i64 0])∧DLib w'.heap.size w' xb s l))
theorem CC{S1 S2:Nat→Prop}(sa la:Option Addr)(sc lc:Nat)(s:Sg)(l:List Ent)(n:ByteArray)(hn:n.size≤aB)(w:World)(h1:Sign S1 w sa sc s)(h2:LibL S2 w la lc l)(hl:l.length≤1000):
  Calls Tryz.prog 40 #[.slice sa s.length sc, .slice la l.length lc, .string n] w (AC s l n w):=by
 have v:=ro sa la sc lc s l w h1 h2 hl
 have m:=h2.le
 have z:=h1.le
 have p:=Lib.hid v
 clear v h1 h2
 go_enter Tryz.func40,Tryz.ntmps40
 go_wp2_with fail
 refine p.out.mono ?_
 rintro e B ⟨j,h⟩
 rcases h with⟨a,rfl⟩|⟨a,x,g,rfl,k⟩
 ·have c:=Lib.hid (And.intro j a)
  clear j a p
  go_wp2_with fail
  go_ret3
  exact⟨c.out.1, .inl ⟨c.out.2,rfl⟩⟩
 obtain⟨t,u,q,r,y,o⟩:=k.op
 have A:=o.q2
 have f:=o.look n hn
 cases b:aG l n with
 |none=>
  rw[b]at f
  simp only[Option.getD_none,Option.isSome_none]at f
  have c:=Lib.hid (And.intro j (And.intro a b))
  clear j a b o k p g
  go_wp2_with fail
  go_ret3
  exact⟨c.out.1, .inr (.inl ⟨c.out.2.1,c.out.2.2,rfl⟩)⟩
 |some i=>
  rw[b]at f
  simp only[Option.getD_some,Option.isSome_some]at f
  have c:=Lib.hid (And.intro j (And.intro a (And.intro b (And.intro g k))))
  clear j a b o k p g
  go_wp2_with fail
  go_ret3
  exact⟨c.out.1, .inr (.inr ⟨c.out.2.1,i,x,c.out.2.2.1,c.out.2.2.2.1,rfl,c.out.2.2.2.2⟩)⟩
theorem lF:(Tryz.prog.info? 46).map (fun i=>(i.zero,i.size,i.bytes))=some (some (.agg #[.string ByteArray.empty, .string ByteArray.empty, .slice none 0 0, .slice none 0 0, .slice none 0 0]),5,104):=by kernel_rfl
abbrev OwnE (S:Nat→Prop) (w:World) (base:Nat) (v:Value) (l:List Ent):Prop:=OwnL entE S w base 46 v l
def GK(S:Nat→Prop)(w:World)(l:List Ent)(e:Ending)(w':World):Prop:=∃v,e= .returned v∧OwnE S w' w.heap.size v l∧Below w.heap.size w w'
theorem Al{S:Nat→Prop}(a:Option Addr)(c:Nat)(l:List Ent)(w:World)(h:LibL S w a c l)(hl:l.length≤1000):
  Calls Tryz.prog 45 #[.slice a l.length c] w (GK (fun b=>S b∧b<w.heap.size) w l):=by
 cases a with
 |none=>
  obtain⟨rfl,rfl⟩:=h.nil rfl
  have j:=fun W=>Lib.run_eql_slice_nil (P:=Tryz.prog) W 24 46 none 0 0 0 0 Tryz.underlying24
  go_enter Tryz.func45,Tryz.ntmps45
  go_wp2_with fail
  go_ret
  exact⟨_,rfl, .nil _ _ _ _ _, .refl _ _⟩
 |some a=>
  have j:=fun W=>Lib.run_eql_slice_nil (P:=Tryz.prog) W 24 46 (some a) l.length c 0 0 Tryz.underlying24
  obtain⟨v',w',f,n,hg,-,-⟩:=(OwnL.made entE (fun b=>S b∧b<w.heap.size) w w.heap.size 46 (Nat.le_refl _)).append_run (P:=Tryz.prog) (t:=24) (ty:=24) Tryz.underlying24 lF rfl (h.lt.below (an w (.cells #[] 46))) (fun i q vs p=>entE.mono p (fun b _ m=>⟨m,fun e=>by simp[Value.ownBlock]at e;have:=m.2;omega⟩) (.refl _ _)) (by simp only[List.length_nil];omega) (by simp only[List.length_nil];unfold aB;omega) (by simp)
  have o:Below w.heap.size w w':=(an w (.cells #[] 46)).grown hg (by simp) (fun k e=>by simp[Value.ownBlock]at e;omega)
  rw[List.nil_append]at n
  clear hg
  have g:=Lib.hid f
  clear f
  go_enter Tryz.func45,Tryz.ntmps45
  go_wp2_with (at_builtin;refine bo rfl _ _ _ rfl rfl rfl g.out ?_)
  go_ret
  exact⟨_,rfl,n,o⟩
def dP(l:List Ent)(i:Nat)(t:List Int):List Ent:=l.set i ((l.getD i default).1,(l.getD i default).2.1,t,(l.getD i default).2.2.2)
theorem ia(l:List Ent)(i:Nat)(t:List Int):(dP l i t).length=l.length:=by unfold dP;rw[List.length_set]
theorem rU{l:List Ent}{i:Nat}{t:List Int}(hi:i<l.length)(h:i<(dP l i t).length):(dP l i t)[i]=(af l[i],aC l[i],t,(ae l[i],ai l[i])):=by
 have:(dP l i t)[i]?=some (af l[i],aC l[i],t,(ae l[i],ai l[i])):=by
  unfold dP
  rw[List.getElem?_set_self (by omega)]
  simp only[List.getD_eq_getElem?_getD,List.getElem?_eq_getElem hi,Option.getD_some]
  rfl
 rw[List.getElem?_eq_getElem h]at this
 exact Option.some.inj this
theorem rT{l:List Ent}{i k:Nat}{t:List Int}(hk:k<l.length)(e:i≠k)(h:k<(dP l i t).length):(dP l i t)[k]=l[k]:=by
 have:(dP l i t)[k]?=some l[k]:=by
  unfold dP
  rw[List.getElem?_set_ne e,List.getElem?_eq_getElem hk]
 rw[List.getElem?_eq_getElem h]at this
 exact Option.some.inj this
theorem uD{xs:List (List Value)}{n i j:Nat}{v:Value}(h:∀x∈xs,x.length=n)(hi:i<xs.length)(hj:j<n):xs.flatten.set (i*n+j) v=(xs.set i ((xs.getD i []).set j v)).flatten:=by
 induction xs generalizing i with
 |nil=>simp at hi
 |cons x r a=>
  have hx:=h x (by simp)
  cases i with
  |zero=>simp only[Nat.zero_mul,Nat.zero_add,List.flatten_cons,List.set_cons_zero,List.getD_cons_zero];rw[List.set_append_left _ _ (by omega)]
  |succ i=>
   simp only[List.flatten_cons,List.set_cons_succ,List.getD_cons_succ]
   rw[List.set_append_right _ _ (by rw[hx,Nat.succ_mul];omega),hx,show(i+1)*n+j-n=i*n+j by rw[Nat.succ_mul];omega,a (fun y hy=>h y (by simp[hy])) (by simpa using hi)]
theorem OwnE.setSays{S:Nat→Prop}{w:World}{base g cap:Nat}{l:List Ent}(h:OwnE S w base (.slice (some ⟨g,0,none⟩) l.length cap) l)(i:Nat)(hi:i<l.length){a:Option Addr}{c:Nat}{t:List Int}(ht:Ints (fun b=>S b∧b≠g) w a c t):
  OwnE S (w.setCell ⟨g,i*5+2,none⟩ (.slice a t.length c)) base (.slice (some ⟨g,0,none⟩) l.length cap) (dP l i t)∧w.grownBy (w.setCell ⟨g,i*5+2,none⟩ (.slice a t.length c)) (some g):=by
 obtain⟨s,z,y,hx⟩:=h
 obtain⟨f,o⟩:=z.stored (i*5+2) (.slice a t.length c)
 have p:∀x∈s,x.length=5:=fun x r=>by
  obtain⟨k,v,rfl⟩:=List.getElem_of_mem r
  exact entE.len (hx k v (by omega))
 rw[uD p (by omega) (by omega)]at f
 have hA:Agree (bZ S (.slice (some ⟨g,0,none⟩) l.length cap)) w (w.setCell ⟨g,i*5+2,none⟩ (.slice a t.length c)):= .of_grown o (fun b j=>by have:=j.2;simpa[Value.ownBlock]using this)
 refine⟨⟨s.set i ((s.getD i []).set 2 (.slice a t.length c)),?_,by simp only[List.length_set,ia];exact y,fun k f m=> ?_⟩,o⟩
 ·rw[ia];exact f
 rw[List.length_set]at f
 by_cases e:i=k
 ·subst e
  rw[List.getElem_set_self,rU hi]
  have hr:=hx i f hi
  simp only[List.getD_eq_getElem?_getD,List.getElem?_eq_getElem f,Option.getD_some]
  obtain⟨I,G,u,⟨rfl,A⟩,J,H,rfl,⟨rfl,B⟩,u3,C,rfl,⟨D,E,rfl,F⟩,q⟩:=hr
  rw[u]
  refine⟨[.string (af l[i])],_,rfl,⟨rfl,A⟩,[.string (aC l[i])],_,rfl,⟨rfl,B⟩,[.slice a t.length c],C,rfl,⟨a,c,rfl,?_⟩,?_⟩
  ·exact ht.mono (fun b _ j=>⟨j.1,fun e=>by simp[Value.ownBlock]at e;exact j.2 e⟩) (.of_grown o (fun b j e=>j.2 (by injection e)))
  exact(dC (cI strE) (cI stpE)).mono q (fun _ _ h=>h) hA
 have n:k<l.length:=by rw[ia]at m;exact m
 rw[List.getElem_set_ne e,rT n e]
 exact entE.mono (hx k f n) (fun _ _ h=>h) hA
def iu(l:List Ent)(k:Nat)(u:ByteArray):Bool:=(l.take k).any (fun x=>bC (ae x) u)&&(aG l u).isNone
def fG(l:List Ent)(k m:Nat)(u:ByteArray):Bool:=((l.take k).any (fun x=>bC (ae x) u)||bC ((ae (l.getD k default)).take m) u)&&(aG l u).isNone
def eL(l:List Ent)(u:ByteArray):Bool:=l.any (fun x=>bC (ae x) u)&&(aG l u).isNone
theorem Fd(l:List Ent)(k:Nat):fG l k 0=iu l k:=by funext u;unfold fG iu;simp[bC]
theorem Fa{l:List Ent}{k:Nat}(hk:k<l.length):fG l k (ae l[k]).length=iu l (k+1):=by
 funext u
 unfold fG iu
 rw[List.take_succ_eq_append_getElem hk,List.any_append]
 simp[List.getElem?_eq_getElem hk]
theorem Fc{l:List Ent}{k m:Nat}(hk:k<l.length)(hm:m<(ae l[k]).length){i:Nat}(h:aG l (ae l[k])[m]=some i):fG l k (m+1)=fG l k m:=by
 funext u
 unfold fG
 simp only[List.getD_eq_getElem?_getD,List.getElem?_eq_getElem hk,Option.getD_some]
 rw[nR hm]
 by_cases e:(ae l[k])[m]=u
 ·subst e;rw[h];simp
 rw[decide_eq_false e,Bool.or_false]
theorem Fb{l:List Ent}{k m:Nat}(hk:k<l.length)(hm:m<(ae l[k]).length)(h:aG l (ae l[k])[m]=none):(fun z=>if z=(ae l[k])[m]then true else fG l k m z)=fG l k (m+1):=by
 funext u
 unfold fG
 simp only[List.getD_eq_getElem?_getD,List.getElem?_eq_getElem hk,Option.getD_some]
 rw[nR hm]
 by_cases e:u=(ae l[k])[m]
 ·subst e;rw[h];simp
 rw[if_neg e,decide_eq_false (fun h=>e h.symm),Bool.or_false]
theorem Ff(l:List Ent):iu l 0=fun _=>false:=by funext u;unfold iu;simp
theorem Fe(l:List Ent):iu l l.length=eL l:=by funext u;unfold iu eL;rw[List.take_length]
def s7(f:ByteArray→Bool)(w:World)(e:Ending)(w':World):Prop:=∃ob M m,e= .returned (.map (some ob))∧w.heap.size≤ob∧M≤800∧m≤M∧SSet w' ob M m f∧Below w.heap.size w w'
def xi(l:List Ent)(w:World)(i:Value)(wr:World):Prop:=∃k M m:Nat,i= .int .i64 k∧k≤l.length∧M≤12*k∧m≤M∧SSet wr w.heap.size M m (iu l k)∧Below w.heap.size w wr
def nT(l:List Ent)(k N:Nat)(w W0:World)(i:Value)(wr:World):Prop:=∃j M m:Nat,i= .int .i64 j∧j≤N∧M≤12*k+j∧m≤M∧SSet wr w.heap.size M m (fG l k j)∧Below w.heap.size w wr∧W0.grownBy wr (some w.heap.size)
theorem FH{s:Sg}{l:List Ent}(h:bz s l=true){x:Ent}(hx:x∈l):(ae x).length≤12∧∀u∈ae x,u.size≤16:=by
 have:=(iB h).2.2.1 x hx
 unfold cE at this
 simp only[Bool.and_eq_true,List.all_eq_true,decide_eq_true_eq]at this
 exact⟨this.2.1.1,fun u a=>(jM (this.2.1.2.2 u a)).2⟩
theorem xj{B xb:Nat}{w:World}{s:Sg}{l:List Ent}(h:DLib B w xb s l):Calls Tryz.prog 81 #[.pointer (some ⟨xb,0,none⟩)] w (s7 (eL l) w):=by
 have a4:= @run_makeMap Tryz.prog
 obtain⟨sa,sc,la,lc,bm,O⟩:=h.op
 have aq:=(iB O.ok).2.1
 have ml:=O.hL.le
 have U:=an w (.map #[] 0)
 have q1:=(O.call U).q1
 have I:=Lib.hid O
 have Q:=Lib.hid O.le
 clear O h
 go_enter Tryz.func81,Tryz.ntmps81
 go_wp2_with fail
 go_loopw [16] (fun i wr=>xi l w i wr) (fun i _=>l.length-(intOf i).toNat)
 case atStart=>exact⟨0,0,0,rfl,Nat.zero_le _,by omega,by omega,by rw[Ff];exact SMap.made w,U⟩
 case round=>
  obtain⟨k,M,m,rfl,hk,R,q,hS,n⟩:=hrel
  by_cases c:k<l.length
  ·obtain⟨b,ba,a1,c1,a2,c2,a3,c3,rfl,aP,p0,p1,p2,p3,p4,z1,z2,hI,hU,hP⟩:=(I.out.call n).hL.ent k c
   obtain⟨W,T⟩:∃W,wr.alloc (.cells #[.string (af l[k]), .string (aC l[k]), .slice a1 (az l[k]).length c1, .slice a2 (ae l[k]).length c2, .slice a3 (ai l[k]).length c3] 46)=W:=⟨_,rfl⟩
   have G:Below wr.heap.size wr W:=by rw[←T];exact an wr _
   have r3:W.cell? ⟨wr.heap.size,3,none⟩=some (.slice a2 (ae l[k]).length c2):=by rw[←T];clear T;go_simp
   have J:=hS.below G hS.lt
   rw[←Fd]at J
   have S:=hU.below G
   have a0:=hU.le
   obtain⟨g,ac⟩:=FH I.out.ok (List.getElem_mem c)
   have V:=Fa c
   have E:=fun m (q:m<(ae l[k]).length) i=>Fc c q (i:=i)
   have D:=fun m (q:m<(ae l[k]).length)=>Fb c q
   have F:=aa n G
   have Z:nT l k (ae l[k]).length w W (.int .i64 0) W:=⟨0,M,m,rfl,Nat.zero_le _,by omega,q,J,F,nF _ _⟩
   have A:=Lib.hid (I.out.call F)
   have aj:=Lib.hid S
   have ab:=Lib.hid Z
   have X:=Lib.hid V
   have L:=Lib.hid E
   have K:=Lib.hid D
   have au:=Lib.hid ac
   have z:=Lib.hid g
   clear Z V E D ac F S J hS n hI hU hP g
   generalize ae l[k]=f at*
   generalize af l[k]=nm at*
   generalize aC l[k]=bn at*
   generalize (az l[k]).length=n1 at*
   generalize (ai l[k]).length=n3 at*
   go_wp2_with fail
   try rw[T]
   clear T
   go_loopw [23] (fun i wr=>nT l k f.length w W i wr) (fun i _=>f.length-(intOf i).toNat)
   case atStart=>exact ab.out
   case round=>
    obtain⟨j,M,m,rfl,hj,R,q,hS,n,N⟩:=hrel
    by_cases p:j<f.length
    ·have t:Below B W wr:=m7 (.refl _ _) N A.out.le Q.out
     have v:=A.out.below t
     obtain⟨b2,o2,rfl,-,qu,ad⟩:=(aj.out.same (Agree.of_below t (fun b h _=>h))).str j p
     have r2:=v.q2
     have y:=v.look f[j] ad
     cases o:aG l f[j]with
     |some i=>
      rw[o]at y
      simp only[Option.getD_some,Option.isSome_some]at y
      rw[←L.out j p i o]at hS
      have a:=Lib.hid (show nT l k f.length w W (.int .i64 ((j:Int)+1)) wr from⟨j+1,M,m,by simp,p,by omega,q,hS,n,N⟩)
      clear hS n N v t R q o
      generalize f[j]=u at*
      go_wp2_with fail
      go_roundw
      case rel=>exact a.out
      case measure=>simp[intOf];omega
     |none=>
      rw[o]at y
      simp only[Option.getD_none,Option.isSome_none]at y
      have g:=z.out
      obtain⟨w3,a5,x,H⟩:=hS.store (tm:=82) Tryz.underlying82 Tryz.underlying9 Tryz.underlying4 (by unfold maxLen;omega) f[j] (fA ad)
      rw[K.out j p o]at x
      have P:=n.grown H n.size (fun i e=>by injection e with e;omega)
      have r:(if fG l k j f[j]=true then m else m+1)≤M+1:=by split<;>omega
      generalize (if fG l k j f[j]=true then m else m+1)=m' at x r
      have a:=Lib.hid (show nT l k f.length w W (.int .i64 ((j:Int)+1)) w3 from⟨j+1,M+1,m',by simp,p,by omega,r,x,P,iW N H⟩)
      clear hS n N v t R q o x H P r g
      generalize f[j]=u at*
      go_wp2_with fail
      go_roundw
      case rel=>exact a.out
      case measure=>simp[intOf];omega
    have aT:((j:Int)<(f.length:Int))=False:=eq_false (by omega)
    have C:j=f.length:=by omega
    have g:=z.out
    rw[C,X.out]at hS
    have a:=Lib.hid (show xi l w (.int .i64 ((k:Int)+1)) wr from⟨k+1,M,m,by simp,c,by omega,q,hS,n⟩)
    clear hS n N R q p hj C g
    go_wp2_with fail
    go_roundw
    case rel=>exact a.out
    case measure=>simp[intOf];omega
  have aW:((k:Int)<(l.length:Int))=False:=eq_false (by omega)
  have Y:k=l.length:=by omega
  rw[Y,Fe]at hS
  have a:=Lib.hid (show s7 (eL l) w (.returned (.map (some w.heap.size))) wr from⟨_,M,m,rfl,Nat.le_refl _,by omega,q,hS,n⟩)
  clear hS n c hk Y R q
  go_wp2_with fail
  go_ret
  exact a.out
def mH(g:FuncId)(cb:Array Value)(may:ByteArray→Bool)(B:Nat)(w:World):Prop:=
 (∀args W,(callFunc g args).run Tryz.prog W= .ok (.enter g args) W)∧∀(x:ByteArray),x.size≤aB→∀W,Below B w W→Calls Tryz.prog g (#[.string x]++cb) W fun e w'=>e= .returned (.bool (may x))∧Below W.heap.size W w'
abbrev wkV (b mb:Nat):Value:= .func (.func 133) #[] #[.pointer (some ⟨b,0,none⟩), .pointer (some ⟨mb+1,0,none⟩), .pointer (some ⟨b+1,0,none⟩), .pointer (some ⟨mb+2,0,none⟩)]
theorem ET(D:List ByteArray)(u:ByteArray):(fun z=>if z=u then true else bC D z)=bC (D++[u]):=by
 funext z
 unfold bC
 rw[List.any_append]
 by_cases e:z=u
 ·subst e;simp
 have:decide (u=z)=false:=decide_eq_false (fun h=>e h.symm)
 simp[e,this]
structure WkCx (W0:World) (B b mb xb:Nat) (s:Sg) (l:List Ent) (g:FuncId) (cb:Array Value) (may:ByteArray→Bool):Prop where
 lib:DLib B W0 xb s l
 hb:B≤b
 hmb:mb=b+2
 c0:W0.cell? ⟨b,0,none⟩=some (.pointer (some ⟨xb,0,none⟩))
 c1:W0.cell? ⟨b+1,0,none⟩=some (.func (.func g) #[] cb)
 c3:W0.cell? ⟨mb+1,0,none⟩=some (.map (some mb))
 c4:W0.cell? ⟨mb+2,0,none⟩=some (wkV b mb)
 fn:mH g cb may B W0
structure WkSt (W0:World) (mb:Nat) (D:List ByteArray) (W:World):Prop where
 g:W0.grownBy W (some mb)
 m:SSet W mb D.length D.length (bC D)
section
variable {W0 W1:World}{B b mb xb:Nat}{s:Sg}{l:List Ent}{g:FuncId}{cb:Array Value}{may:ByteArray→Bool}{D1:List ByteArray}
theorem WkCx.bel(hX:WkCx W0 B b mb xb s l g cb may)(h:WkSt W0 mb D1 W1):Below B W0 W1:=m7 (.refl _ _) h.g hX.lib.1 (by have:=hX.hb;have:=hX.hmb;omega)
theorem WkCx.d0(hX:WkCx W0 B b mb xb s l g cb may)(h:WkSt W0 mb D1 W1):W1.cell? ⟨b,0,none⟩=some (.pointer (some ⟨xb,0,none⟩)):=h.g.cell hX.c0 (by have:=hX.hmb;intro e;injection e with e;simp at e;omega)
theorem WkCx.d1(hX:WkCx W0 B b mb xb s l g cb may)(h:WkSt W0 mb D1 W1):W1.cell? ⟨b+1,0,none⟩=some (.func (.func g) #[] cb):=h.g.cell hX.c1 (by have:=hX.hmb;intro e;injection e with e;simp at e;omega)
theorem WkCx.d3(hX:WkCx W0 B b mb xb s l g cb may)(h:WkSt W0 mb D1 W1):W1.cell? ⟨mb+1,0,none⟩=some (.map (some mb)):=h.g.cell hX.c3 (by intro e;injection e with e;simp at e)
theorem WkCx.d4(hX:WkCx W0 B b mb xb s l g cb may)(h:WkSt W0 mb D1 W1):W1.cell? ⟨mb+2,0,none⟩=some (wkV b mb):=h.g.cell hX.c4 (by intro e;injection e with e;simp at e)
end
def pa(W0:World)(l:List Ent)(may:ByteArray→Bool)(mb:Nat)(n:ByteArray)(D:List ByteArray)(i:Value)(wr:World):Prop:=
 ∃(k:Nat) (D1:List ByteArray),i= .int .i64 k∧k≤(bB l n).length∧WkAt (bB l) may (gq l) n k D D1∧WkSt W0 mb D1 wr
def sG(W0:World)(l:List Ent)(may:ByteArray→Bool)(mb:Nat)(n:ByteArray)(D:List ByteArray)(w':World):Prop:=∃D2,WkAt (bB l) may (gq l) n (bB l n).length D D2∧WkSt W0 mb D2 w'
theorem Gz{W0:World}{B b mb xb:Nat}{s:Sg}{l:List Ent}{g:FuncId}{cb:Array Value}{may:ByteArray→Bool}(hX:WkCx W0 B b mb xb s l g cb may):
  ∀(N:Nat) (D:List ByteArray) (n:ByteArray) (W:World),(gq l).length-D.length≤N→D.Nodup→(∀u∈D,u∈gq l)→WkSt W0 mb D W→n.size≤aB→
   Calls Tryz.prog 133 #[.string n, .pointer (some ⟨b,0,none⟩), .pointer (some ⟨mb+1,0,none⟩), .pointer (some ⟨b+1,0,none⟩), .pointer (some ⟨mb+2,0,none⟩)] W fun e w'=>e= .returned (.tuple #[])∧sG W0 l may mb n D w':=by
 intro N
 induction N using Nat.strongRecOn with
 |ind N ih=>
 intro D n W hN hD hU hS hn
 obtain⟨a,c,hA,Y⟩:=IM hX.lib n hn
 have p0:=hX.d0 hS
 have O:=Y W (hX.bel hS)
 have bq:=hA.le
 have ag:WkAt (bB l) may (gq l) n 0 D D:= .start hD hU
 have aj:=Lib.hid ag
 have aR:=Lib.hid hS
 have Z:=Lib.hid O
 have U:=Lib.hid hA
 have r:=Lib.hid hX
 have a2:=Lib.hid ih
 have aN:=Lib.hid hD
 have aO:=Lib.hid hN
 clear ag hS Y O hA hX ih hU hD hN
 go_enter Tryz.func133,Tryz.ntmps133
 go_wp2_with (go_at_call 125;refine Z.out.mono ?_;rintro e w1 ⟨rfl,rfl⟩)
 go_loopw [12] (fun i wr=>pa W0 l may mb n D i wr) (fun i _=>(bB l n).length-(intOf i).toNat)
 case atStart=>exact⟨0,D,rfl,Nat.zero_le _,aj.out,aR.out⟩
 case round=>
  obtain⟨k,z,rfl,hk,q,f⟩:=hrel
  by_cases o:k<(bB l n).length
  ·obtain⟨u,y⟩:∃u,(bB l n)[k]=u:=⟨_,rfl⟩
   obtain⟨bA,oA,rfl,bm,qA,G⟩:=U.out.str k o
   rw[y]at qA G
   have I:=U.out.same (Agree.of_below (r.out.bel f) (fun b h _=>h))
   obtain⟨ax,a3,aT,-,al,-⟩:=I.str k o
   have X:ax=bA∧a3=oA:=by simpa using aT.symm
   obtain⟨rfl,rfl⟩:=X
   rw[y]at al
   have J:u∈gq l:=by rw[←y];exact IL (List.getElem_mem o)
   have r1:=r.out.d1 f
   have r3:=r.out.d3 f
   have r4:=r.out.d4 f
   have ad:=f.m.look (tm:=82) Tryz.underlying82 Tryz.underlying9 Tryz.underlying4 (kO wr) u (fA G)
   cases K:bC z u with
   |true=>
    rw[K]at ad
    have p:=q.skip o (.inl (by rw[y];exact memB_iff.1 K))
    have j:=Lib.hid (show pa W0 l may mb n D (.int .i64 ((k:Int)+1)) wr from⟨k+1,z,by simp,o,p,f⟩)
    clear p K q f J y qA I
    go_wp2_with fail
    go_roundw
    case rel=>exact j.out
    case measure=>simp[intOf];omega
   |false=>
    rw[K]at ad
    have M:u∉z:=fun e=>by rw[memB_iff.2 e]at K;cases K
    have E:=r.out.fn.2 u G wr (r.out.bel f)
    have eg:=r.out.fn.1
    have t:=Lib.hid E
    cases v:may u with
    |false=>
     rw[v]at t
     have p:=q.skip o (.inr (by rw[y];exact v))
     have j:=Lib.hid (fun w2 (w:Below wr.heap.size wr w2)=>show pa W0 l may mb n D (.int .i64 ((k:Int)+1)) w2 from⟨k+1,z,by simp,o,p,⟨iW f.g (jC w),f.m.same (w.block mb f.m.lt)⟩⟩)
     clear p K q f J y qA I E v M
     go_wp2_with (first|(go_at_fn g;refine t.out.mono ?_;rintro e w2 ⟨rfl,w⟩;have aU:=Lib.hid w;clear w)|go_in)
     go_roundw
     case rel=>exact j.out _ aU.out
     case measure=>simp[intOf];omega
    |true=>
     rw[v]at t
     obtain⟨R,T,ac⟩:=q.put o (by rw[y];exact M) (by rw[y];exact J)
     rw[y]at R T
     have hU:=tn r.out.lib.2.2.1
     have C:(z++[u]).length=z.length+1:=by simp
     have P:∀w2,Below wr.heap.size wr w2→∃H,(Instr.mapUpdate 82 (.map (some mb)) (.string u) (.bool true)).run Tryz.prog w2= .ok () H∧WkSt W0 mb (z++[u]) H:=fun w2 w=>by
      obtain⟨H,h1,h2,h3⟩:=(f.m.same (w.block mb f.m.lt)).store (tm:=82) Tryz.underlying82 Tryz.underlying9 Tryz.underlying4 (by unfold maxLen;omega) u (fA G)
      rw[K,ET]at h2
      exact⟨H,h1,iW (iW f.g (jC w)) h3,by rw[C];exact h2⟩
     have V:=jO aN.out (fun x hx=>q.sub x hx)
     have aP:=aO.out
     have F:∀H,WkSt W0 mb (z++[u]) H→_:=fun H A=>a2.out (N-1) (by omega) (z++[u]) u H (by rw[C];omega) R T A G
     have j:∀w4,sG W0 l may mb u (z++[u]) w4→pa W0 l may mb n D (.int .i64 ((k:Int)+1)) w4:=fun w4 ⟨D2,h2,h3⟩=>by
      subst y
      exact⟨k+1,D2,by simp,o,q.deep o M v h2,h3⟩
     have S:=Lib.hid P
     have L:=Lib.hid F
     have Q:=Lib.hid j
     clear C P V aP F j R T ac hU v E M K q f J y qA I
     go_wp2_with fail
     go_at_fn g
     refine t.out.mono ?_
     rintro e w2 ⟨rfl,w⟩
     obtain⟨H,a1,A⟩:=S.out w2 w
     have a4:=cell_later w r3
     have s4:=r.out.d4 A
     have a0:=Lib.hid (L.out H A)
     clear r3 r4 r1 al w A
     go_wp2_with fail
     refine a0.out.mono ?_
     rintro e w4 ⟨rfl,hd⟩
     have aW:=Lib.hid hd
     clear hd s4 a4 a1
     go_wp2_with fail
     go_roundw
     case rel=>exact Q.out _ aW.out
     case measure=>simp[intOf];omega
  have bp:((k:Int)<((bB l n).length:Int))=False:=eq_false (by omega)
  have ab:k=(bB l n).length:=by omega
  have j:=Lib.hid (show sG W0 l may mb n D wr from⟨z,by rw[←ab];exact q,f⟩)
  clear q f o hk ab
  go_wp2_with fail
  go_end0
  exact⟨rfl,j.out⟩
def pm(l:List Ent)(may:ByteArray→Bool)(n:ByteArray)(w:World)(e:Ending)(w':World):Prop:=
 ∃ob m,e= .returned (.map (some ob))∧w.heap.size≤ob∧m≤720∧SSet w' ob m m (gJ l may n)∧Below w.heap.size w w'
theorem yi{B xb:Nat}{w:World}{s:Sg}{l:List Ent}{g:FuncId}{cb:Array Value}{may:ByteArray→Bool}(h:DLib B w xb s l)(hf:mH g cb may w.heap.size w)(n:ByteArray)(hn:n.size≤aB):
  Calls Tryz.prog 87 #[.pointer (some ⟨xb,0,none⟩), .string n, .func (.func g) #[] cb] w (pm l may n w):=by
 have M:= @run_makeMap Tryz.prog
 have H:=h.mono h.1 (Nat.le_refl w.heap.size)
 have i:=Lib.hid H
 have k:=Lib.hid hf
 clear h H hf
 go_enter Tryz.func87,Tryz.ntmps87
 go_wp2_with fail
 obtain⟨b,a⟩:∃b,(((((w.alloc (.cells #[.pointer (some ⟨xb,0,none⟩)] 79)).alloc (.cells #[.func (.func g) #[] cb] 110)).alloc (.map #[] 0)).alloc (.cells #[.map (some (w.heap.size+1+1))] 82)).alloc
   (.cells #[wkV w.heap.size (w.heap.size+1+1)] 156))=b:=⟨_,rfl⟩
 have f:Below w.heap.size w b:=by
  rw[←a]
  exact((jy w _ _ _).trans ((an _ _).mono (by simp;omega))).trans ((an _ _).mono (by simp;omega))
 have q:b.heap.size=w.heap.size+5:=by rw[←a];simp
 have C:b.cell? ⟨w.heap.size,0,none⟩=some (.pointer (some ⟨xb,0,none⟩)):=by rw[←a];clear a;go_simp
 have E:b.cell? ⟨w.heap.size+1,0,none⟩=some (.func (.func g) #[] cb):=by rw[←a];clear a;go_simp
 have r:b.cell? ⟨w.heap.size+1+1+1,0,none⟩=some (.map (some (w.heap.size+1+1))):=by rw[←a];clear a;go_simp
 have F:b.cell? ⟨w.heap.size+1+1+1+1,0,none⟩=some (wkV w.heap.size (w.heap.size+1+1)):=by rw[←a];clear a;go_simp
 have p:SSet b (w.heap.size+1+1) 0 0 (bC []):=by
  have G:=SMap.made (P:=Tryz.prog) (tk:=9) (te:=4) ((w.alloc (.cells #[.pointer (some ⟨xb,0,none⟩)] 79)).alloc (.cells #[.func (.func g) #[] cb] 110))
  simp only[World.size_alloc]at G
  rw[←a]
  exact(G.below (an _ _) (by simp)).below (an _ _) (by simp)
 have t:WkCx b w.heap.size w.heap.size (w.heap.size+1+1) xb s l g cb may:=⟨i.out.below f,Nat.le_refl _,rfl,C,E,r,F,k.out.1,fun x hx W L=>k.out.2 x hx W (f.trans L)⟩
 have I:=Gz t _ [] n b (Nat.le_refl _) List.nodup_nil (fun u h=>by cases h) ⟨nF _ _,p⟩ hn
 have y:=Lib.hid I
 have j:=Lib.hid t
 have v:=Lib.hid f
 have J:=Lib.hid q
 clear I t f C E r F p q
 rw[a]
 refine y.out.mono ?_
 rintro e N ⟨rfl,D,c,hS⟩
 have r:=j.out.d3 hS
 have K:=tn i.out.2.2.1
 have z:=jO c.nd c.U
 have A:=hS.m
 rw[c.test]at A
 have o:=Lib.hid (show pm l may n w (.returned (.map (some (w.heap.size+1+1)))) N from⟨_,_,rfl,by omega,by omega,A,v.out.trans (j.out.bel hS)⟩)
 clear a K z A hS c
 go_wp2_with fail
 go_ret
 exact o.out
theorem ED(B:Nat)(w:World):mH 88 #[] (fun _=>true) B w:=by
 refine⟨enters_of Tryz.func88 (by kernel_rfl) rfl,fun x hx W _=> ?_⟩
 go_enter Tryz.func88,Tryz.ntmps88
 go_wp2_with fail
 go_ret
 exact⟨rfl, .refl _ _⟩
theorem EE{B xb:Nat}{w:World}{s:Sg}{l:List Ent}(h:DLib B w xb s l)(n:ByteArray)(hn:n.size≤aB):
  Calls Tryz.prog 43 #[.pointer (some ⟨xb,0,none⟩), .string n] w (pm l (fun _=>true) n w):=by
 have v:=Lib.hid (yi h (ED _ w) n hn)
 clear h
 go_enter Tryz.func43,Tryz.ntmps43
 go_wp2_with fail
 refine v.out.mono ?_
 rintro e i ⟨g,m,rfl,a,b,c,f⟩
 go_wp2_with fail
 go_ret
 exact⟨g,m,rfl,a,b,c,f⟩
def sW(g:FuncId)(cb:Array Value)(n:Nat)(pd:Nat→Bool)(B:Nat)(w:World):Prop:=
 (∀args W,(callFunc g args).run Tryz.prog W= .ok (.enter g args) W)∧∀(i:Nat),i<n→∀W,Below B w W→Calls Tryz.prog g (#[.int .i64 i]++cb) W fun e w'=>e= .returned (.bool (pd i))∧Below W.heap.size W w'
def BU(l:List Ent)(pd:Nat→Bool)(w:World)(i v:Value)(wr:World):Prop:=
 ∃k:Nat,i= .int .i64 k∧k≤l.length∧OwnS wr w.heap.size v (ey l pd k)∧Below w.heap.size w wr
theorem BX{B xb:Nat}{w:World}{s:Sg}{l:List Ent}{g:FuncId}{cb:Array Value}{pd:Nat→Bool}(h:DLib B w xb s l)(hf:sW g cb l.length pd w.heap.size w):
  Calls Tryz.prog 46 #[.pointer (some ⟨xb,0,none⟩), .func (.func g) #[] cb] w (SortedOut w (fh l pd)):=by
 obtain⟨sa,sc,la,lc,bm,r⟩:=h.op
 have ab:=(iB r.ok).2.1
 have L:=(iB r.ok).2.2.2
 have ml:=r.hL.le
 have q1:=r.q1
 have eg:=hf.1
 have Q:=Lib.hid r
 have T:=Lib.hid hf
 have M:=Lib.hid L
 clear r h hf L
 go_enter Tryz.func46,Tryz.ntmps46
 go_wp2_with fail
 go_loopw [13,5] (fun i v wr=>BU l pd w i v wr) (fun i _ _=>l.length-(intOf i).toNat)
 case atStart=>exact⟨0,rfl,Nat.zero_le _,OwnL.nil _ _ _ _ _, .refl _ _⟩
 case round=>
  obtain⟨k,rfl,hk,r,E⟩:=hrel
  by_cases o:k<l.length
  ·obtain⟨b,aT,a1,c1,a2,c2,a3,c3,rfl,aO,p0,p1,p2,p3,p4,z1,z2,hI,hU,hP⟩:=(Q.out.call E).hL.ent k o
   obtain⟨W,H⟩:∃W,wr.alloc (.cells #[.string (af l[k]), .string (aC l[k]), .slice a1 (az l[k]).length c1, .slice a2 (ae l[k]).length c2, .slice a3 (ai l[k]).length c3] 46)=W:=⟨_,rfl⟩
   have D:Below wr.heap.size wr W:=by rw[←H];exact an wr _
   have q0:W.cell? ⟨wr.heap.size,0,none⟩=some (.string (af l[k])):=by rw[←H];clear H;go_simp
   have C:=aa E D
   have ve:=T.out.2 k o W C
   have n:(pd k=true→ey l pd (k+1)=ey l pd k++[af l[k]])∧(pd k=false→ey l pd (k+1)=ey l pd k):=
    ⟨fun h=>by rw[tQ o,if_pos h],fun h=>by rw[tQ o,if_neg (by rw[h];simp)]⟩
   have J:=tP l pd k
   have G:=OwnL.call r D
   clear hI hU hP r
   generalize af l[k]=nm at*
   generalize aC l[k]=bn at*
   generalize (az l[k]).length=n1 at*
   generalize (ae l[k]).length=n2 at*
   generalize (ai l[k]).length=n3 at*
   have z:=Lib.hid ve
   have f:=Lib.hid n
   have u:=Lib.hid G
   have p:=Lib.hid C
   have I:=Lib.hid H
   clear ve n G C D E H
   cases q:pd k with
   |false=>
    rw[q]at z
    have n:=f.out.2 q
    have f:=Lib.hid n
    clear n q
    go_wp2_with fail
    rw[I.out]
    go_at_fn g
    refine z.out.mono ?_
    rintro e w2 ⟨rfl,m⟩
    have c:=Lib.hid m
    clear m
    go_wp2_with fail
    go_roundw
    case rel=>exact⟨k+1,by go_num,o,by rw[f.out];exact OwnL.call u.out c.out,aa p.out c.out⟩
    case measure=>simp[intOf];omega
   |true=>
    rw[q]at z
    have n:=f.out.1 q
    have f:=Lib.hid n
    clear n q
    go_wp2_with fail
    rw[I.out]
    go_at_fn g
    refine z.out.mono ?_
    rintro e w2 ⟨rfl,m⟩
    obtain⟨v',W',N,F,hg,-⟩:=OwnL.push (P:=Tryz.prog) (t:=37) (ty:=37) (OwnL.call u.out m) Tryz.underlying37 jI rfl (vs:=[.string nm]) (x:=nm) ⟨rfl,z1⟩ (by omega) (by unfold aB;omega) (Nat.le_trans p.out.size m.size)
    rw[←f.out]at F
    have r0:=cell_later m q0
    have X:=Lib.hid F
    have U:=Lib.hid hg
    have c:=Lib.hid m
    clear F hg m q0
    go_wp2_with (at_builtin;refine bo rfl _ _ _ rfl rfl rfl N ?_)
    go_roundw
    case rel=>exact⟨k+1,by go_num,o,X.out,(aa p.out c.out).grown U.out (Nat.le_trans p.out.size c.out.size) (fun j e=>(OwnL.lt (OwnL.call u.out c.out) j e).1)⟩
    case measure=>simp[intOf];omega
  have K:k=l.length:=by omega
  have aR:((k:Int)<(l.length:Int))=False:=eq_false (by omega)
  rw[K]at r
  have J:=tP l pd l.length
  have hn:=BW (pd:=pd) M.out
  have Y:=HI r (by omega) E.size
  have hm:∀x,x∈(((ey l pd l.length).map bs).mergeSort fun x y=>decide (x≤y)).map eo↔fh l pd x=true:=fun x=>by
   rw[←BV]
   refine mem_sort.trans ⟨fun h=> ?_,fun h=>List.mem_map.2 ⟨x,h,rfl⟩⟩
   obtain⟨y,hy,e⟩:=List.mem_map.1 h
   rw[←pL e];exact hy
  have ha:AscN ((((ey l pd l.length).map bs).mergeSort fun x y=>decide (x≤y)).map eo):=tD (by
   refine List.pairwise_map.2 (hn.imp fun {a b} S e=>S ?_)
   exact pL e)
  have O:=Lib.hid Y
  have V:=Lib.hid hm
  have R:=Lib.hid ha
  have p:=Lib.hid E
  clear Y hm ha E r hn J o hk K
  go_wp2_with fail
  refine O.out.mono ?_
  rintro e w2 ⟨rfl,F,Z⟩
  have A:=Lib.hid (And.intro F (p.out.trans Z))
  clear F Z
  go_wp2_with fail
  go_ret
  exact⟨_,_,rfl,A.out.1,R.out,V.out,A.out.2⟩
theorem Ip{B xb:Nat}{w:World}{s:Sg}{l:List Ent}(h:DLib B w xb s l)(bx:Nat)(hbx:w.cell? ⟨bx,0,none⟩=some (.pointer (some ⟨xb,0,none⟩)))(x:ByteArray)(hx:x.size≤aB)(v:Value):
  Calls Tryz.prog 86 #[.string x,v, .pointer (some ⟨bx,0,none⟩)] w fun e w'=>e= .returned (.bool (aG l x).isNone)∧w=w':=by
 obtain⟨m,n,g,j,f,c⟩:=h.op
 have k:=c.q2
 have b:=c.look x hx
 clear c h
 cases a:aG l x with
 |none=>
  rw[a]at b
  simp only[Option.getD_none,Option.isSome_none]at b
  clear a
  go_enter Tryz.func86,Tryz.ntmps86
  go_wp2_with fail
  go_ret
  exact⟨rfl,rfl⟩
 |some i=>
  rw[a]at b
  simp only[Option.getD_some,Option.isSome_some]at b
  clear a
  go_enter Tryz.func86,Tryz.ntmps86
  go_wp2_with fail
  go_ret
  exact⟨rfl,rfl⟩
def mF(w:World)(b M n:Nat)(f:ByteArray→Bool):Prop:=∃D:DataW Unit,w.ownsMap Tryz.prog 9 (plainElem Tryz.prog 4) b M D∧Maps.size D≤n∧∀x:ByteArray,has D (.string (bs x))=f x
theorem SMap.kset{w:World}{b M n:Nat}{f:ByteArray→Bool}(h:SSet w b M n f):mF w b M n f:=by
 obtain⟨D,a,_,hs,hf⟩:=h
 exact⟨D,a,Nat.le_of_eq hs,fun x=>(hf x).1⟩
theorem HK{w:World}{b M n:Nat}{f:ByteArray→Bool}(h:mF w b M n f)(hn:n≤1000000):Calls Tryz.prog 41 #[.map (some b)] w (SortedOut w f):=by
 obtain⟨D,i,hs,hf⟩:=h
 have j:=Eu (some b) w
 have c:=zg i (Nat.le_trans hs hn) (Ev i) (enters_of Tryz.func132 (by kernel_rfl) rfl)
 have e:(fun x:ByteArray=>has D (.string (bs x)))=f:=funext hf
 rw[e]at c
 have a:=Lib.hid j
 have g:=Lib.hid c
 clear j c i hs hf e hn
 go_enter Tryz.func41,Tryz.ntmps41
 go_wp2_with fail
 refine a.out.mono ?_
 rintro e p ⟨rfl,rfl⟩
 go_wp2_with fail
 refine g.out.mono ?_
 rintro e w2 ⟨v,L,rfl,k,l,m,o⟩
 go_wp2_with fail
 go_ret
 exact⟨v,L,rfl,k,l,m,o⟩
def jP(l:List Ent)(kl:Lit)(_:DataW Unit):Bool:=match kl with| .string x=>(aG l (eo x)).isNone|_=>false
theorem Cp{D:DataW Unit}{l:List Ent}{x:ByteArray}:has (Lib.deleteFuncD (jP l) D) (.string (bs x))=(has D (.string (bs x))&&(aG l x).isSome):=by
 cases D with
 |map c=>
  unfold Lib.deleteFuncD
  simp only[has_eq]
  rw[Bool.eq_iff_iff,Bool.and_eq_true,List.any_eq_true,List.any_eq_true]
  have b:∀p:Lit×DataW Unit,p.1.sameKey (.string (bs x))=true→jP l p.1 p.2=(aG l x).isNone:=fun p a=>by
   obtain⟨k,y⟩:=p
   cases k<;>simp[Lit.sameKey]at a
   subst a
   simp only[jP,n9]
  constructor
  ·rintro⟨p,a,hs⟩
   rw[List.mem_filter]at a
   refine⟨⟨p,a.1,hs⟩,?_⟩
   have:=a.2
   rw[b p hs]at this
   cases h:aG l x<;>rw[h]at this<;>simp_all
  rintro⟨⟨p,a,hs⟩,hx⟩
  refine⟨p,List.mem_filter.2 ⟨a,?_⟩,hs⟩
  rw[b p hs]
  cases h:aG l x<;>rw[h]at hx<;>simp_all
 |_=>rfl
theorem Cq{D:DataW Unit}{l:List Ent}:Maps.size (Lib.deleteFuncD (jP l) D)≤Maps.size D:=by
 cases D with
 |map a=>unfold Lib.deleteFuncD;exact List.length_filter_le _ _
 |_=>exact Nat.le_refl _
theorem Et{v:Value}{kl:Lit}(h:keyOf Tryz.prog 9 v=some kl):∃x:ByteArray,v= .string x∧kl= .string (bs x)∧x.size≤aB:=by
 obtain⟨x,rfl,rfl,hx⟩:=Maps.keyOf_str Tryz.underlying9 h
 refine⟨eo x,rfl,by rw[pM],?_⟩
 have e:(bs (eo x)).length=(eo x).size:=pJ _
 rw[pM]at e
 unfold maxLen at hx
 unfold aB
 omega
theorem Iq{B xb:Nat}{w:World}{s:Sg}{l:List Ent}(h:DLib B w xb s l){ob M n:Nat}{f:ByteArray→Bool}(hS:SSet w ob M n f)(hob:B≤ob):
  Calls Tryz.prog 42 #[.pointer (some ⟨xb,0,none⟩), .map (some ob)] w fun e w'=>e= .returned (.map (some ob))∧mF w' ob M n (fun x=>f x&&(aG l x).isSome)∧Below B w w':=by
 obtain⟨D,q,hs,hf⟩:=SMap.kset hS
 obtain⟨W,c⟩:∃W,w.alloc (.cells #[.pointer (some ⟨xb,0,none⟩)] 79)=W:=⟨_,rfl⟩
 have a:Below w.heap.size w W:=by rw[←c];exact an w _
 have v:W.cell? ⟨w.heap.size,0,none⟩=some (.pointer (some ⟨xb,0,none⟩)):=by rw[←c];clear c;go_simp
 have j:W.ownsMap Tryz.prog 9 (plainElem Tryz.prog 4) ob M D:=by
  obtain⟨y,b,t,r⟩:=q
  exact⟨y,b,(a.block ob (Array.getElem?_eq_some_iff.1 t).1).trans t,r⟩
 have u:=AnyDf.maps_DeleteFunc (ρ:=yM) Hd (string_keyed Tryz.underlying9) (plainElem Tryz.prog 4) (jP l) 86 #[.pointer (some ⟨w.heap.size,0,none⟩)] ob M D W
  (enters_of Tryz.func86 (by kernel_rfl) rfl) j (fun W1 key val F G H hg C hr=>by
   obtain⟨x,rfl,rfl,hx⟩:=Et C
   have o:Below B w W1:=m7 (a.mono h.1) hg (Nat.le_trans h.1 a.size) hob
   have A:=q.lt
   refine(Ip (h.below o) w.heap.size (hg.cell v (by intro e;injection e with e;simp at e;omega)) x hx val).mono ?_
   rintro e w' ⟨rfl,rfl⟩
   exact⟨by simp only[jP,n9],nF _ _⟩)
 have i:=h.1
 have p:=Lib.hid u
 have g:=Lib.hid (fun w' (k:w'.ownsMap Tryz.prog 9 (plainElem Tryz.prog 4) ob M (Lib.deleteFuncD (jP l) D)) (m:W.grownBy w' (some ob))=>show mF w' ob M n (fun x=>f x&&(aG l x).isSome)∧Below B w w' from
  ⟨⟨_,k,Nat.le_trans Cq hs,fun x=>by rw[Cp,hf x]⟩,m7 (a.mono i) m (Nat.le_trans i a.size) hob⟩)
 clear u j q hs hf a v hS h
 go_enter Tryz.func42,Tryz.ntmps42
 go_wp2_with fail
 try rw[c]
 refine p.out.mono ?_
 rintro e E ⟨rfl,k,m⟩
 have z:=Lib.hid (g.out E k m)
 clear k m c
 go_wp2_with fail
 go_ret
 exact⟨rfl,z.out⟩
def NamesRet(f:ByteArray→Bool)(er:Int)(w:World)(e:Ending)(w':World):Prop:=
 ∃v L,e= .returned (.tuple #[v, .int .i64 er])∧OwnS w' w.heap.size v L∧AscN L∧(∀x,x∈L↔f x=true)∧Below w.heap.size w w'
theorem NamesRet.nil{w w':World}{er:Int}(hb:Below w.heap.size w w'):NamesRet (fun _=>false) er w (.returned (.tuple #[.slice none 0 0, .int .i64 er])) w':=
 ⟨_,[],rfl,OwnL.nil _ _ _ _ _, .nil,by simp,hb⟩
noncomputable def gB(s:Sg)(l:List Ent)(n:ByteArray):(ByteArray→Bool)×Int:=
 if bz s l=true then(match aG l n with|some _=>(fun x=>gJ l (fun _=>true) n x&&(aG l x).isSome,0)|none=>(fun _=>false,5))else(fun _=>false,1)
theorem OwnS.base{w:World}{b b':Nat}{v:Value}{l:List ByteArray}(h:OwnS w b v l)(hb:b'≤b):OwnS w b' v l:=by
 obtain⟨a,hr⟩:=OwnS.row h
 exact OwnS.of_row (ownsRow_base_a a hb) hr
theorem SortedOut.names{w w0:World}{f:ByteArray→Bool}{e:Ending}{w':World}(h:SortedOut w f e w')(hb:Below w0.heap.size w0 w):∃v,e= .returned v∧∀er,NamesRet f er w0 (.returned (.tuple #[v, .int .i64 er])) w':=by
 obtain⟨v,L,rfl,a,b,c,g⟩:=h
 exact⟨v,rfl,fun er=>⟨v,L,rfl,OwnS.base a hb.size,b,c,aa hb g⟩⟩
theorem AB{S1 S2:Nat→Prop}(sa la:Option Addr)(sc lc:Nat)(s:Sg)(l:List Ent)(n:ByteArray)(hn:n.size≤aB)(w:World)(h1:Sign S1 w sa sc s)(h2:LibL S2 w la lc l)(hl:l.length≤1000):
  Calls Tryz.prog 14 #[.slice sa s.length sc, .slice la l.length lc, .string n] w (NamesRet (gB s l n).1 (gB s l n).2 w):=by
 have v:=CC sa la sc lc s l n hn w h1 h2 hl
 have m:=h2.le
 have H:=h1.le
 obtain⟨r,hr⟩:∃r,gB s l n=r:=⟨_,rfl⟩
 rw[hr]
 have q:=Lib.hid v
 have g:=Lib.hid hr
 clear v h1 h2 hr
 go_enter Tryz.func14,Tryz.ntmps14
 go_wp2_with fail
 refine q.out.mono ?_
 rintro e J ⟨p,h⟩
 have f:=Lib.hid p
 rcases h with⟨a,rfl⟩|⟨a,b,rfl⟩|⟨a,i,M,b,B,rfl,y⟩
 ·have hf:gB s l n=(fun _=>false,1):=by unfold gB;rw[a];rfl
  have c:=Lib.hid (g.out.symm.trans hf)
  clear p a q hf
  go_wp2_with fail
  go_ret2
  rw[c.out]
  exact NamesRet.nil f.out
 ·have hf:gB s l n=(fun _=>false,5):=by unfold gB;rw[a,b];rfl
  have c:=Lib.hid (g.out.symm.trans hf)
  clear p a q hf b
  go_wp2_with fail
  go_ret2
  rw[c.out]
  exact NamesRet.nil f.out
 have hf:gB s l n=(fun x=>gJ l (fun _=>true) n x&&(aG l x).isSome,0):=by unfold gB;rw[a,b];rfl
 have c:=Lib.hid (g.out.symm.trans hf)
 have F:=Lib.hid (EE y n hn)
 have z:=Lib.hid y
 clear p a q hf b B y
 go_wp2_with fail
 refine F.out.mono ?_
 rintro e w2 ⟨I,m,rfl,h1,h2,C,t⟩
 have G:=Lib.hid (Iq (z.out.call t) C h1)
 have u:=Lib.hid t
 clear h1 C t
 go_wp2_with fail
 refine G.out.mono ?_
 rintro e K ⟨rfl,D,j⟩
 have vs:=Lib.hid (HK D (by omega))
 have k:=Lib.hid (aa f.out (u.out.trans j))
 clear D j
 go_wp2_with fail
 refine vs.out.mono ?_
 rintro e L o
 obtain⟨v,rfl,E⟩:=o.names k.out
 have A:=Lib.hid (E 0)
 clear E o
 go_wp2_with fail
 go_ret2
 rw[c.out]
 exact A.out
abbrev OwnG (B:Nat) (w:World) (base:Nat) (v:Value) (l:List (List Int)):Prop:=OwnL (cI intE) (fun b=>b<B) w base 42 v l
def pl(B:Nat)(l:List Ent)(us:List ByteArray)(w:World)(e:Ending)(w':World):Prop:=
 Below w.heap.size w w'∧((fF l us=false∧e= .returned (.tuple #[.slice none 0 0, .bool false]))∨(fF l us=true∧∃v,e= .returned (.tuple #[v, .bool true])∧OwnG B w' w.heap.size v (ek l us)))
def vq(B:Nat)(l:List Ent)(us:List ByteArray)(w:World)(i v:Value)(wr:World):Prop:=
 ∃k:Nat,i= .int .i64 k∧k≤us.length∧fF l (us.take k)=true∧OwnG B wr w.heap.size v (ek l (us.take k))∧Below w.heap.size w wr
theorem Df{B xb:Nat}{w:World}{s:Sg}{l:List Ent}(h:DLib B w xb s l)(i:Nat)(hi:i<l.length):
  Calls Tryz.prog 139 #[.pointer (some ⟨xb,0,none⟩), .int .i64 i] w (pl B l (ae l[i]) w):=by
 obtain⟨sa,sc,la,lc,bm,A⟩:=h.op
 have ml:=A.hL.le
 have q1:=A.q1
 obtain⟨b,Q,a1,c1,a2,c2,a3,c3,rfl,ac,p0,p1,p2,p3,p4,z1,z2,I,J,Z⟩:=A.hL.ent i hi
 obtain⟨a,z⟩:∃a,ae l[i]=a:=⟨_,rfl⟩
 rw[z]at J p3⊢
 have V:a.length≤60:=by have:=(iB A.ok).2.2.1 l[i] (List.getElem_mem hi);unfold cE at this;simp only[Bool.and_eq_true,decide_eq_true_eq]at this;rw[z]at this;omega
 have ad:(i:Int)<(l.length:Int):=by omega
 have mu:=J.le
 have C:=Lib.hid A
 have K:=Lib.hid J
 clear A h J I Z z p0 p1 p2 p4
 go_enter Tryz.func139,Tryz.ntmps139
 go_wp2_with fail
 go_loopw [20,6] (fun i v wr=>vq B l a w i v wr) (fun i _ _=>a.length-(intOf i).toNat)
 case atStart=>exact⟨0,rfl,Nat.zero_le _,rfl,OwnL.nil _ _ _ _ _, .refl _ _⟩
 case round=>
  obtain⟨k,rfl,hk,m,r,o⟩:=hrel
  by_cases n:k<a.length
  ·have g:=C.out.call o
   obtain⟨b2,o2,rfl,-,qu,O⟩:=(K.out.below o).str k n
   have r1:=g.q1
   have r2:=g.q2
   have p:=g.look a[k] O
   cases c:aG l a[k]with
   |none=>
    rw[c]at p
    simp only[Option.getD_none,Option.isSome_none]at p
    have f:=Lib.hid (show pl B l a w (.returned (.tuple #[.slice none 0 0, .bool false])) wr from⟨o, .inl ⟨D4 n c,rfl⟩⟩)
    clear m r o g c r1
    generalize a[k]=u at*
    go_wp2_with fail
    go_ret2
    exact f.out
   |some j=>
    rw[c]at p
    simp only[Option.getD_some,Option.isSome_some]at p
    obtain⟨U,-⟩:=gx c
    obtain⟨Y,H,R,S,d2,e2,d3,e3,L,T,s0,s1,s2,s3,s4,-,-,I,-,-⟩:=g.hL.ent j U
    have D:Y=b∧H=Q:=by simpa using L.symm
    obtain⟨rfl,rfl⟩:=D
    have ag:(j:Int)<(l.length:Int):=by omega
    have hg:=De n c U
    have q:fF l (a.take (k+1))=true:=by rw[D5 n,m,c];rfl
    have M:(ek l (a.take k)).length≤60:=by rw[uX,List.length_take];omega
    obtain⟨v',X,G,y,E,-⟩:=OwnL.push (P:=Tryz.prog) (t:=163) (ty:=163) r Tryz.underlying163 wg rfl (vs:=[.slice R (az l[j]).length S]) (x:=az l[j])
     ⟨R,S,rfl,I.weak (fun b hb=>⟨hb,fun e=>by have:=(OwnL.lt r b e.symm).1;have:=C.out.le;omega⟩)⟩ (by omega) (by unfold aB;omega) o.size
    rw[←hg]at y
    have f:=Lib.hid (show vq B l a w (.int .i64 ((k:Int)+1)) v' X from⟨k+1,by simp,n,q,y,o.grown E o.size (fun j e=>(OwnL.lt r j e).1)⟩)
    clear m r o g c hg q y E I s0 s1 s3 s4 M
    generalize a[k]=u at*
    generalize (az l[j]).length=n1 at*
    go_wp2_with (at_builtin;refine bo rfl _ _ _ rfl rfl rfl G ?_)
    go_roundw
    case rel=>exact f.out
    case measure=>simp[intOf];omega
  have al:((k:Int)<(a.length:Int))=False:=eq_false (by omega)
  have F:k=a.length:=by omega
  rw[F,List.take_length]at m r
  obtain⟨W,aq⟩:∃W:Value,W=u6:=⟨_,rfl⟩
  have f:=Lib.hid (show∀v,OwnG B wr w.heap.size v (ek l a)→pl B l a w (.returned (.tuple #[v, .bool true])) wr from fun v hv=>⟨o, .inr ⟨m,v,rfl,hv⟩⟩)
  have N:=Lib.hid r
  clear m r o n hk F
  go_wp2_with fail
  go_ret2
  exact f.out _ N.out
end Go.Proofs.YtlejmeegkpdabaaGreatDoor
