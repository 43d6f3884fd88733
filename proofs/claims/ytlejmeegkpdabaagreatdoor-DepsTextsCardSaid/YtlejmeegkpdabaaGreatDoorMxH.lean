/- The proof of a statement, some of its texts joined in build order: part H. -/
import Derived.Test.YtlejmeegkpdabaaGreatDoorMxC
import Derived.Test.YtlejmeegkpdabaaGreatDoorMxG
import Derived.Test.YtlejmeegkpdabaaGreatDoorMxX
import Derived.Lib.AtoiAllCases
set_option maxHeartbeats 8000000
set_option maxRecDepth 100000
namespace Go.Proofs.YtlejmeegkpdabaaGreatDoor
open Go Go.RowKit Go.Maps
def lY(l:List Ent)(T:List ByteArray)(i:Nat):Bool:= !bC T (bE l i)&&(ie l i).all (bC T)
inductive OrdR (l:List Ent):List Nat→List Nat→Prop
 |stop {T:List Nat}:(∀i,i<l.length→lY l (T.map (bE l)) i=false)→OrdR l T T
 |step {T C:List Nat} {i:Nat}:i<l.length→lY l (T.map (bE l)) i=true→(∀j,j<i→lY l (T.map (bE l)) j=false)→OrdR l (T++[i]) C→OrdR l T C
theorem OrdR.det{l:List Ent}{T C C':List Nat}(h:OrdR l T C)(k:OrdR l T C'):C=C':=by
 induction h generalizing C' with
 |stop f=>cases k with
  |stop=>rfl
  |step c a=>rw[f _ c]at a;cases a
 |step f b j _ m=>cases k with
  |stop c=>rw[c _ f]at b;cases b
  |step c a n o=>
   rename_i i _ g
   have e:i=g:=by
    rcases Nat.lt_trichotomy i g with e|e|e
    ·rw[n _ e]at b;cases b
    ·exact e
    rw[j _ e]at a;cases a
   subst e
   exact m o
structure OrdS (l:List Ent) (T:List Nat):Prop where
 nd:T.Nodup
 lt:∀i∈T,i<l.length
 dn:∀t (ht:t<T.length),∀u∈ie l T[t],u∈(T.take t).map (bE l)
theorem OrdS.nil(l:List Ent):OrdS l []:=⟨List.nodup_nil,(fun i h=>by cases h),(fun t h=>absurd h (Nat.not_lt_zero _))⟩
theorem OrdS.step{l:List Ent}{T:List Nat}{i:Nat}(h:OrdS l T)(hi:i<l.length)(hn:lY l (T.map (bE l)) i=true):OrdS l (T++[i]):=by
 unfold lY at hn
 rw[Bool.and_eq_true,List.all_eq_true]at hn
 have f:i∉T:=fun n=>by
  have:=memB_iff.2 (List.mem_map.2 (⟨i,n,rfl⟩:∃a,a∈T∧bE l a=bE l i))
  rw[this]at hn;simp at hn
 refine⟨?_,fun j m=> ?_,fun t o u c=> ?_⟩
 ·rw[List.nodup_append]
  exact⟨h.nd,by simp,fun a ha b g e=>f (by rw[List.mem_singleton]at g;rw[←g,←e];exact ha)⟩
 ·rcases List.mem_append.1 m with e|e
  ·exact h.lt j e
  rw[List.mem_singleton]at e;rw[e];exact hi
 by_cases e:t<T.length
 ·rw[List.getElem_append_left e]at c
  rw[List.take_append_of_le_length (by omega)]
  exact h.dn t e u c
 have k:t=T.length:=by simp at o;omega
 subst k
 rw[List.getElem_append_right (Nat.le_refl _)]at c
 simp at c
 rw[List.take_left']
 ·exact memB_iff.1 (hn.2 u c)
 rfl
theorem OrdS.size{l:List Ent}{T:List Nat}(h:OrdS l T):T.length≤l.length:=by
 have:=jO (m:=List.range l.length) h.nd (fun x hx=>List.mem_range.2 (h.lt x hx))
 rwa[List.length_range]at this
theorem OrdS.rch{l:List Ent}(hd:(l.map af).Nodup){T:List Nat}(h:OrdS l T){may:ByteArray→Prop}:∀t (ht:t<T.length) {u:ByteArray},Rch (bB l) may (bE l T[t]) u→u∈(T.take t).map (bE l):=by
 intro t ht u hr
 have b:∀q (a:q<T.length) v,v∈bB l (bE l T[q])→v∈(T.take q).map (bE l):=fun q a v f=>by
  rw[sE hd (h.lt _ (List.getElem_mem a))]at f
  exact h.dn q a v f
 induction hr with
 |one c _=>exact b t ht _ c
 |more _ c _ m=>
  obtain⟨q,a,e⟩:=List.mem_map.1 m
  obtain⟨j,i,rfl⟩:=List.getElem_of_mem a
  rw[List.length_take]at i
  rw[List.getElem_take]at e
  rw[←e]at c
  have:=b j (by omega) _ c
  obtain⟨p,k,g⟩:=List.mem_map.1 this
  exact List.mem_map.2 ⟨p,(List.take_subset_take_left _ (by omega)) k,g⟩
def iq(l:List Ent)(n:ByteArray):Int:=match aG l n with|some i=>(i:Int)|none=>-1
theorem qN{l:List Ent}{n:ByteArray}{j:Nat}(h:aG l n=some j):iq l n=j:=by unfold iq;rw[h]
theorem qM{l:List Ent}{n:ByteArray}(h:aG l n=none):iq l n=-1:=by unfold iq;rw[h]
theorem wn(l:List Ent)(n:ByteArray):iq l n=jc l (fun x=>decide (af x=n)):=rfl
def yr(l:List Ent)(n:ByteArray)(w:World)(i:Value)(wr:World):Prop:=∃k:Nat,i= .int .i64 k∧k≤l.length∧(∀j (hj:j<k) (hl:j<l.length),af l[j]≠n)∧w=wr
theorem rC{S:Nat→Prop}(a:Option Addr)(c:Nat)(l:List Ent)(n:ByteArray)(w:World)(h:LibL S w a c l):
  Calls Tryz.prog 28 #[.slice a l.length c, .string n] w fun e w'=>e= .returned (.int .i64 (iq l n))∧w=w':=by
 have m:=h.le
 have r:=Lib.hid h
 clear h
 go_enter Tryz.func28,Tryz.ntmps28
 go_wp2_with fail
 go_loopw [5] (fun i wr=>yr l n w i wr) (fun i _=>l.length-(intOf i).toNat)
 case atStart=>exact⟨0,rfl,Nat.zero_le _,fun j q=>by omega,rfl⟩
 case round=>
  obtain⟨k,rfl,y,g,rfl⟩:=hrel
  by_cases o:k<l.length
  ·obtain⟨b,C,K,N,L,O,M,P,rfl,v,D,E,F,G,H,I,J,s,u,t⟩:=r.out.ent k o
   clear E F G H s u t J
   obtain⟨x,hx⟩:∃x,af l[k]=x:=⟨_,rfl⟩
   rw[hx]at D I
   by_cases p:x=n
   ·have B:=fe p
    have f:=Lib.hid (show iq l n=k by rw[wn];exact v6 o (fun j q=>decide_eq_false (g j q (by omega))) (decide_eq_true (hx.trans p)))
    clear g hx p
    go_wp2_with fail
    go_ret
    first|exact⟨fd f.out.symm,rfl⟩|exact⟨fd f.out.symm,trivial⟩
   have B:=eM p
   have f:=Lib.hid (show yr l n w (.int .i64 ((k:Int)+1)) w from⟨k+1,by simp,o,fun j q A=>by
    by_cases e:j=k
    ·subst e;rw[hx];exact p
    exact g j (by omega) A,rfl⟩)
   clear g hx p
   go_wp2_with fail
   go_roundw
   case rel=>exact f.out
   case measure=>simp[intOf];omega
  have z:((k:Int)<(l.length:Int))=False:=eq_false (by omega)
  have f:=Lib.hid (show iq l n=-1 by rw[wn];exact vZ (fun j q=>decide_eq_false (g j (by omega) q)))
  clear g o y
  go_wp2_with fail
  go_ret
  first|exact⟨fd f.out.symm,rfl⟩|exact⟨fd f.out.symm,trivial⟩
theorem FN{acc:List Ent}{k:Nat}(h:acc.length=k+1)(hk:k<acc.length):de acc=(decide (0<(ae acc[k]).length)&&decide ((ai acc[k]).length=0)):=by
 have e:acc.length-1=k:=by omega
 have:acc.getLast?=some acc[k]:=by
  rw[List.getLast?_eq_getElem?,e]
  exact List.getElem?_eq_getElem _
 unfold de
 rw[this]
 have b:decide (ae acc[k]≠ [])=decide (0<(ae acc[k]).length):=by
  rw[Bool.eq_iff_iff,decide_eq_true_eq,decide_eq_true_eq]
  exact List.length_pos_iff.symm
 have a:decide (ai acc[k]=[])=decide ((ai acc[k]).length=0):=by
  rw[Bool.eq_iff_iff,decide_eq_true_eq,decide_eq_true_eq]
  exact List.length_eq_zero_iff.symm
 simp only
 rw[b,a]
theorem FO(b off k c n2 n3 c2 c3:Nat)(a2 a3:Option Addr)(w:World)(hk:k≤1000)(p3:w.cell? ⟨b,off+k*5+3,none⟩=some (.slice a2 n2 c2))(p4:w.cell? ⟨b,off+k*5+4,none⟩=some (.slice a3 n3 c3))(m2:n2≤9223372036854775807)(m3:n3≤9223372036854775807):
  Calls Tryz.prog 24 #[.slice (some ⟨b,off,none⟩) (k+1) c] w fun e w'=>e= .returned (.bool (decide (0<n2)&&decide (n3=0)))∧w=w':=by
 have i:wrap64 (k:Int)=(k:Int):=Go.IntWalk.wrap64_in _ (by omega)
 have f:(0:Int)≤(k:Int):=by omega
 have g:(k:Int)<(k:Int)+1:=by omega
 have a:((0:Int)<(k:Int)+1)=True:=eq_true (by omega)
 cases n2 with
 |zero=>
  go_enter Tryz.func24,Tryz.ntmps24
  go_wp2_with fail
  go_ret
  exact⟨rfl,rfl⟩
 |succ n2=>
  cases n3 with
  |zero=>
   go_enter Tryz.func24,Tryz.ntmps24
   go_wp2_with fail
   go_ret
   exact⟨aF (by simp),rfl⟩
  |succ n3=>
   have h:(((n3+1:Nat):Int)==0)=false:=by rw[beq_eq_false_iff_ne];omega
   go_enter Tryz.func24,Tryz.ntmps24
   go_wp2_with fail
   go_ret
   exact⟨aF (by simp;omega),rfl⟩
theorem xH{S:Nat→Prop}(a:Option Addr)(c:Nat)(acc:List Ent)(w:World)(h:LibL S w a c acc)(hl:acc.length≤1000):
  Calls Tryz.prog 24 #[.slice a acc.length c] w fun e w'=>e= .returned (.bool (de acc))∧w=w':=by
 cases l:acc.length with
 |zero=>
  have i:acc=[]:=List.length_eq_zero_iff.1 l
  have f:=Lib.hid (show de acc=false by rw[i];rfl)
  clear h i
  go_enter Tryz.func24,Tryz.ntmps24
  go_wp2_with fail
  go_ret
  exact⟨aF f.out.symm,rfl⟩
 |succ k=>
  have j:k<acc.length:=by omega
  obtain⟨b,g,u,v,m,o,n,p,rfl,-,y,z,A,s,t,B,C,x,r,q⟩:=h.ent k j
  rw[FN l j]
  exact FO b g k c _ _ o p m n w (by omega) s t r.le q.le
def IP:Enc Value where
 size:=1
 pos:=by decide
 R _ _ vs x:=vs=[x]∧x.oneCell'=true
 len h:=by rw[h.1];rfl
 one h:=by rw[h.1];intro u hu;rw[List.mem_singleton.1 hu];exact h.2
 mono h _ _:=h
abbrev EnPV:=ByteArray×ByteArray×List Int×List ByteArray×Value
def enPV:Enc EnPV:=dC strE (dC strE (dC (cI intE) (dC (cI strE) IP)))
def dr(x:Ent)(v:Value):EnPV:=(af x,aC x,az x,ae x,v)
def fL(base:Nat)(v:Value):Nat→Prop:=fun b=>base≤b∧some b≠v.ownBlock
structure PS1 (w:World) (base:Nat) (lv:Value) (A:List Ent) (y:Ent) (pv:Value) (vs:List Value):Prop where
 own:OwnL enPV (fL base pv) w base 46 lv (List.zipWith dr A vs++[dr y pv])
 len:vs.length=A.length
 dif:∀k,pv.ownBlock=some k→lv.ownBlock≠some k
 done:∀i (h1:i<vs.length) (h2:i<A.length),∃a c,vs[i]= .slice a (ai A[i]).length c∧Steps (bZ (fL base pv) lv) w a c (ai A[i])
 last:OwnSt w base pv (ai y)
def PS(w:World)(base:Nat)(lv:Value)(acc:List Ent):Prop:=(acc=[]∧lv= .slice none 0 0)∨∃A y pv vs,acc=A++[y]∧PS1 w base lv A y pv vs
theorem fw{A:List Ent}{vs:List Value}(h:vs.length=A.length)(y:EnPV):(List.zipWith dr A vs++[y]).length=A.length+1:=by simp[h]
theorem Sl.conv{α β:Type}{E:Enc α}{F:Enc β}{S:Nat→Prop}{w:World}{a:Option Addr}{c:Nat}{l:List α}{m:List β}(h:Sl E S w a c l)(hs:E.size=F.size)(hl:l.length=m.length)
  (f:∀i (h1:i<l.length) (h2:i<m.length) vs,E.R S w vs l[i]→F.R S w vs m[i]):Sl F S w a c m:=by
 refine⟨by rw[←hl];exact h.cap,h.max,fun e=> ?_,fun j=> ?_⟩
 ·obtain⟨h1,h2⟩:=h.nil e
  rw[h1]at hl
  exact⟨List.length_eq_zero_iff.1 hl.symm,h2⟩
 obtain⟨b,k,ha,o,g,p⟩:=h.dat (fun e=>j (List.length_eq_zero_iff.1 (by rw[←hl,e];rfl)))
 refine⟨b,k,ha,o,g,fun i q=> ?_⟩
 obtain⟨vs,h1,h2,n⟩:=p i (by omega)
 exact⟨vs,by rw[h1,hs],by rw[←hs];exact h2,f i (by omega) q vs n⟩
section
variable {w w':World}{base:Nat}{lv pv:Value}{A:List Ent}{y:Ent}{vs:List Value}
theorem uy{S T:Nat→Prop}{x:Ent}{v:Value}{us:List Value}(h:enPV.R S w us (dr x v))(hS:∀b,b<w.heap.size→S b→T b){a:Option Addr}{c:Nat}(hv:v= .slice a (ai x).length c)(hp:Steps T w a c (ai x)):entE.R T w us x:=by
 obtain⟨E,A,k,⟨l,t⟩,F,B,m,⟨n,u⟩,u3,C,o,⟨f,i,p,y⟩,G,D,q,⟨g,j,r,z⟩,s,-⟩:=h
 refine⟨E,A,k,⟨l,t⟩,F,B,m,⟨n,u⟩,u3,C,o,⟨f,i,p,y.mono hS (.refl _ _)⟩,G,D,q,⟨g,j,r,z.mono hS (.refl _ _)⟩,⟨a,c,?_,hp⟩⟩
 rw[s]
 show [v]=_
 rw[hv];rfl
theorem PS1.ent(h:PS1 w base lv A y pv vs):∃a c,lv= .slice a (A.length+1) c∧LibL (fun b=>base≤b) w a c (A++[y]):=by
 obtain⟨a,c,e,hs⟩:=h.own.slB (fun b k=>k.1)
 rw[fw h.len]at e
 refine⟨a,c,e,hs.conv rfl (by rw[fw h.len];simp) fun i r q s f=> ?_⟩
 by_cases n:i<A.length
 ·have g:(List.zipWith dr A vs++[dr y pv])[i]=dr A[i] (vs[i]'(by have:=h.len;omega)):=by
   rw[List.getElem_append_left (by simp[h.len];omega),List.getElem_zipWith]
  have j:(A++[y])[i]=A[i]:=List.getElem_append_left n
  rw[g]at f
  rw[j]
  obtain⟨o,p,m,l⟩:=h.done i (by have:=h.len;omega) n
  exact uy f (fun _ _ h=>h) m (l.weak (fun b k=>k.1.1))
 obtain rfl:i=A.length:=by simp at q;omega
 have g:(List.zipWith dr A vs++[dr y pv])[A.length]=dr y pv:=by
  rw[List.getElem_append_right (by simp[h.len])];simp
 have j:(A++[y])[A.length]=y:=by rw[List.getElem_append_right (Nat.le_refl _)];simp
 rw[g]at f
 rw[j]
 obtain⟨o,p,m,l⟩:=h.last.steps
 exact uy f (fun _ _ h=>h) m l
theorem PS1.at(h:PS1 w base lv A y pv vs):∃g cap,lv= .slice (some ⟨g,0,none⟩) (A.length+1) cap∧base≤g∧g<w.heap.size∧w.cell? ⟨g,A.length*5+4,none⟩=some pv∧w.frozen? ⟨g,A.length*5+4,none⟩=false:=by
 obtain⟨g,cap,e,z,hg⟩:=h.own.form (by simp)
 rw[fw h.len]at e
 refine⟨g,cap,e,z,hg,?_⟩
 obtain⟨b,f,C,hx⟩:=h.own
 rw[fw h.len]at C f
 have a:∀x∈b,x.length=5:=fun x i=>by
  obtain⟨k,B,rfl⟩:=List.getElem_of_mem i
  exact enPV.len (hx k B (by rw[fw h.len];omega))
 have hA:A.length<b.length:=by omega
 have hr:=hx A.length hA (by rw[fw h.len];omega)
 have c:(List.zipWith dr A vs++[dr y pv])[A.length]'(by rw[fw h.len];omega)=dr y pv:=by
  rw[List.getElem_append_right (by simp[h.len])];simp
 rw[c]at hr
 have E:b[A.length].length=5:=a _ (List.getElem_mem hA)
 have D:b[A.length][4]'(by omega)=pv:=by
  obtain⟨N,J,o,⟨c,F⟩,O,K,p,⟨q,G⟩,u3,L,r,⟨j,m,s,H⟩,P,M,t,⟨l,n,u,I⟩,v,-⟩:=hr
  have:b[A.length]=[.string (af y), .string (aC y), .slice j (az y).length m, .slice l (ae y).length n,pv]:=by
   rw[o,p,r,t,c,q,s,u,v];rfl
  simp[this]
 subst e
 refine⟨?_,f.frozenAt _⟩
 rw[f.cellAt (A.length*5+4) (by show A.length*5+4<(A.length+1)*5;omega)]
 rw[im a A.length hA 4 (by omega),D]
theorem PS1.below(h:PS1 w base lv A y pv vs)(hb:Below w.heap.size w w'):PS1 w' base lv A y pv vs:=
 ⟨h.own.call hb,h.len,h.dif,fun i g j=>by
  obtain⟨a,c,b,f⟩:=h.done i g j
  exact⟨a,c,b,f.below hb⟩,h.last.call hb⟩
theorem PS.below{acc:List Ent}(h:PS w base lv acc)(hb:Below w.heap.size w w'):PS w' base lv acc:=by
 rcases h with h|⟨A,y,a,vs,e,h⟩
 ·exact .inl h
 exact .inr ⟨A,y,a,vs,e,h.below hb⟩
theorem PS.ent{acc:List Ent}(h:PS w base lv acc):∃a c,lv= .slice a acc.length c∧LibL (fun b=>base≤b) w a c acc:=by
 rcases h with⟨rfl,rfl⟩|⟨A,y,i,vs,rfl,h⟩
 ·exact⟨none,0,rfl, .empty⟩
 obtain⟨a,c,f,g⟩:=h.ent
 exact⟨a,c,by rw[f];simp,g⟩
theorem PS.lt{acc:List Ent}(h:PS w base lv acc):∀k,lv.ownBlock=some k→base≤k∧k<w.heap.size:=by
 rcases h with⟨rfl,rfl⟩|⟨A,y,a,vs,rfl,h⟩
 ·intro k e;cases e
 exact h.own.lt
theorem PS.push{acc:List Ent}{P:Program}(h:PS w base lv acc){t ty:TypeId}{z:Value}{bytes:Nat}(ht:P.underlying t=some (.slice 46))
  (hinfo:(P.info? 46).map (fun i=>(i.zero,i.size,i.bytes))=some (some z,5,bytes)) (hzs:z.cells.size=5) {x:Ent} {a1 a2:Option Addr} {c1 c2:Nat}
  (n1:(af x).size≤aB) (n2:(aC x).size≤aB) (k1:Ints (bZ (fun b=>base≤b) lv) w a1 c1 (az x)) (k2:Sl strE (bZ (fun b=>base≤b) lv) w a2 c2 (ae x)) (hp:ai x=[])
  (hlen:(acc.length+1)*bytes≤140737488355328) (hmax:acc.length+1≤aB) (hbase:base≤w.heap.size):
  ∃v' w',(Builtin.append_ #[t,t] ty #[lv, .slice (some ⟨w.heap.size,0,none⟩) 1 1]).run P (w.alloc (.cells #[.string (af x), .string (aC x), .slice a1 (az x).length c1, .slice a2 (ae x).length c2, .slice none 0 0] 46))= .ok v' w'∧
   PS w' base v' (acc++[x])∧w.grownBy w' lv.ownBlock:=by
 have key:∀(A:List Ent) (vs:List Value),OwnL enPV (fun b=>base≤b) w base 46 lv (List.zipWith dr A vs)→A.length=acc.length→vs.length=A.length→
   ∃v' w',(Builtin.append_ #[t,t] ty #[lv, .slice (some ⟨w.heap.size,0,none⟩) 1 1]).run P (w.alloc (.cells #[.string (af x), .string (aC x), .slice a1 (az x).length c1, .slice a2 (ae x).length c2, .slice none 0 0] 46))= .ok v' w'∧
   OwnL enPV (fun b=>base≤b) w' base 46 v' (List.zipWith dr A vs++[dr x (.slice none 0 0)])∧w.grownBy w' lv.ownBlock∧(v'.ownBlock=lv.ownBlock∨∃k,v'.ownBlock=some k∧w.heap.size≤k):=by
  intro A vs q hA F
  refine q.push (P:=P) (t:=t) (ty:=ty) (z:=z) (bytes:=bytes) ht hinfo hzs (x:=dr x (.slice none 0 0)) (vs:=[.string (af x), .string (aC x), .slice a1 (az x).length c1, .slice a2 (ae x).length c2, .slice none 0 0]) ?_ ?_ ?_ hbase
  ·exact⟨[.string (af x)],_,rfl,⟨rfl,n1⟩,[.string (aC x)],_,rfl,⟨rfl,n2⟩,[_],_,rfl,⟨a1,c1,rfl,k1⟩,[_],_,rfl,⟨a2,c2,rfl,k2⟩,rfl,rfl⟩
  ·rw[List.length_zipWith,F,Nat.min_self,hA];exact hlen
  rw[List.length_zipWith,F,Nat.min_self,hA];exact hmax
 have j:∀(b:Nat),base≤b→fL base (.slice none 0 0) b:=fun b f=>⟨f,by simp[Value.ownBlock]⟩
 rcases h with⟨rfl,rfl⟩|⟨A,y,o,vs,rfl,h⟩
 ·obtain⟨v',w',r,s,m,-⟩:=key [] [] (OwnL.nil _ _ _ _ _) rfl rfl
  refine⟨v',w',r, .inr ⟨[],x, .slice none 0 0,[],rfl,⟨?_,rfl,fun k e=>by simp[Value.ownBlock]at e,fun i E=>by simp at E,by rw[hp];exact OwnL.nil _ _ _ _ _⟩⟩,m⟩
  exact s.weak (fun b _ f=>j b f)
 have G:List.zipWith dr A vs++[dr y o]=List.zipWith dr (A++[y]) (vs++[o]):=by
  rw[List.zipWith_append h.len.symm];rfl
 have q:=h.own
 rw[G]at q
 obtain⟨v',w',r,s,m,D⟩:=key (A++[y]) (vs++[o]) (q.weak (fun b _ f=>f.1)) (by simp) (by simp[h.len])
 have hS:∀b,b<w.heap.size→bZ (fL base o) lv b→bZ (fL base (.slice none 0 0)) v' b:=fun b l f=>⟨j b f.1.1,by
  rcases D with e|⟨k,e,J⟩
  ·rw[e];exact f.2
  rw[e];intro g;injection g with g;omega⟩
 refine⟨v',w',r, .inr ⟨A++[y],x, .slice none 0 0,vs++[o],rfl,⟨s.weak (fun b _ f=>j b f),by simp[h.len],fun k e=>by simp[Value.ownBlock]at e,fun i E H=> ?_,by rw[hp];exact OwnL.nil _ _ _ _ _⟩⟩,m⟩
 by_cases u:i<A.length
 ·obtain⟨a,c,p,g⟩:=h.done i (by have:=h.len;omega) u
  refine⟨a,c,?_,?_⟩
  ·rw[List.getElem_append_left (by have:=h.len;omega),List.getElem_append_left u];exact p
  rw[List.getElem_append_left u]
  exact g.mono hS (.of_grown m (fun b f=>f.2))
 obtain rfl:i=A.length:=by simp at H;omega
 obtain⟨a,c,p,g⟩:=h.last.steps
 refine⟨a,c,?_,?_⟩
 ·rw[List.getElem_append_right (by have:=h.len;omega),List.getElem_append_right (Nat.le_refl _)];simp[h.len,p]
 rw[List.getElem_append_right (Nat.le_refl _)]
 simp only[Nat.sub_self,List.getElem_cons_zero]
 have v:Steps (fun b=>base≤b∧some b≠lv.ownBlock) w a c (ai y):=by
  have B:=h.last
  obtain⟨N,L,K,M⟩:=B
  by_cases n:ai y=[]
  ·rw[n]at g⊢
   exact⟨g.cap,g.max,g.nil,fun h=>(h rfl).elim⟩
  obtain⟨b,C,ha,f,l,I⟩:=g.dat n
  refine⟨g.cap,g.max,g.nil,fun _=>⟨b,C,ha,⟨f,fun e=>h.dif b (by rw[p,ha];rfl) e.symm⟩,l,I⟩⟩
 exact v.mono (fun b l f=>⟨j b f.1,by
  rcases D with e|⟨k,e,J⟩
  ·rw[e];exact f.2
  rw[e];intro g;injection g with g;omega⟩) (.of_grown m (fun b f=>f.2))
theorem PS1.grown{pv':Value}(h:PS1 w base lv A y pv vs)(hg:w.grownBy w' pv.ownBlock)(hat:pv'.ownBlock=pv.ownBlock∨∃k,pv'.ownBlock=some k∧w.heap.size≤k):
  OwnL enPV (fL base pv') w' base 46 lv (List.zipWith dr A vs++[dr y pv])∧(∀k,pv'.ownBlock=some k→lv.ownBlock≠some k)∧
   ∀i (h1:i<vs.length) (h2:i<A.length),∃a c,vs[i]= .slice a (ai A[i]).length c∧Steps (bZ (fL base pv') lv) w' a c (ai A[i]):=by
 have hS:∀b,b<w.heap.size→fL base pv b→fL base pv' b:=fun b m f=>⟨f.1,by
  rcases hat with e|⟨k,e,o⟩
  ·rw[e];exact f.2
  rw[e];intro g;injection g with g;omega⟩
 refine⟨((h.own.weak (S':=fun b=>fL base pv b∧b<w.heap.size) (fun b h1 h2=>⟨h2,h1⟩)).grown hg (fun k l g=>h.dif k g l) (fun b f _ e=>f.1.2 e.symm)).weak (fun b _ f=>hS b f.2 f.1),?_,?_⟩
 ·intro k l g
  rcases hat with e|⟨j,e,n⟩
  ·exact h.dif k (by rw[←e];exact l) g
  have:=(h.own.lt k g).2
  rw[e]at l;injection l with l;omega
 intro i h1 h2
 obtain⟨a,c,l,g⟩:=h.done i h1 h2
 exact⟨a,c,l,g.mono (fun b m f=>⟨hS b m f.1,f.2⟩) (.of_grown hg (fun b f=>f.1.2))⟩
theorem xU{g cap:Nat}{pv':Value}{p':List Stp}(hlv:lv= .slice (some ⟨g,0,none⟩) (A.length+1) cap)(ho:OwnL enPV (fL base pv') w base 46 lv (List.zipWith dr A vs++[dr y pv]))(hl:vs.length=A.length)
  (hd:∀k,pv'.ownBlock=some k→lv.ownBlock≠some k) (hn:∀i (h1:i<vs.length) (h2:i<A.length),∃a c,vs[i]= .slice a (ai A[i]).length c∧Steps (bZ (fL base pv') lv) w a c (ai A[i]))
  (hp:OwnSt w base pv' p'):PS1 (w.setCell ⟨g,A.length*5+4,none⟩ pv') base lv A (dm y p') pv' vs∧w.grownBy (w.setCell ⟨g,A.length*5+4,none⟩ pv') (some g):=by
 subst hlv
 have f:pv'.oneCell'=true:=by obtain⟨a,c,e,-⟩:=hp.steps;rw[e];rfl
 obtain⟨r,hr,j,hx⟩:=ho
 rw[fw hl]at hr j
 obtain⟨h1,h2⟩:=hr.stored (A.length*5+4) pv'
 have o:∀x∈r,x.length=5:=fun x q=>by
  obtain⟨k,l,rfl⟩:=List.getElem_of_mem q
  exact enPV.len (hx k l (by rw[fw hl];omega))
 rw[uD o (by omega) (by omega)]at h1
 have hA:Agree (bZ (fL base pv') (.slice (some ⟨g,0,none⟩) (A.length+1) cap)) w (w.setCell ⟨g,A.length*5+4,none⟩ pv'):= .of_grown h2 (fun b n=>n.2)
 refine⟨⟨⟨r.set A.length ((r.getD A.length []).set 4 pv'),?_,?_,?_⟩,hl,hd,fun i h1 h2=> ?_,?_⟩,h2⟩
 ·rw[fw hl];exact h1
 ·rw[List.length_set,j,fw hl]
 ·intro k m H
  rw[List.length_set]at m
  rw[fw hl]at H
  by_cases e:A.length=k
  ·subst e
   rw[List.getElem_set_self,List.getElem_append_right (by simp[hl])]
   have hr:=hx A.length m (by rw[fw hl];omega)
   rw[List.getElem_append_right (by simp[hl])]at hr
   simp only[List.length_zipWith,hl,Nat.min_self,Nat.sub_self,List.getElem_cons_zero]at hr⊢
   simp only[List.getD_eq_getElem?_getD,List.getElem?_eq_getElem m,Option.getD_some]
   obtain⟨M,I,E,⟨rfl,z⟩,N,J,rfl,⟨rfl,B⟩,u3,K,rfl,⟨s,u,rfl,C⟩,O,L,rfl,⟨t,v,rfl,D⟩,rfl,-⟩:=hr
   rw[E]
   exact⟨[_],_,rfl,⟨rfl,z⟩,[_],_,rfl,⟨rfl,B⟩,[_],_,rfl,⟨s,u,rfl,C.mono (fun _ _ h=>h) hA⟩,[_],_,rfl,⟨t,v,rfl,D.mono (fun _ _ h=>h) hA⟩,rfl,f⟩
  rw[List.getElem_set_ne e]
  have hr:=hx k m (by rw[fw hl];omega)
  rw[List.getElem_append_left (by simp[hl];omega)]at hr⊢
  exact enPV.mono hr (fun _ _ h=>h) hA
 ·obtain⟨a,c,F,G⟩:=hn i h1 h2
  exact⟨a,c,F,G.mono (fun _ _ h=>h) hA⟩
 refine hp.kept (fun k l=> ?_) (fun b n=>n.1.elim)
 have p:=hd k l
 exact h2.block k (hp.lt k l).2 (fun e=>p (by rw[e];rfl))
end
theorem HY{s:Sg}{x:Ent}(hp:ai x=[]):(ae x=[]→cE s x=b9 s x)∧(ae x≠ []→cE s (dm x [(1,0,0)])=b9 s x):=by
 constructor
 ·intro a
  rw[g8,a,hp]
  simp
 intro a
 rw[g8,ri]
 cases h:b9 s x with
 |false=>rfl
 |true=>
  have f:=(ji h).2.2.2.2.1
  have g:0<(ae x).length:=List.length_pos_iff.2 a
  have b:ae (dm x [(1,0,0)])=ae x:=rfl
  have c:ai (dm x [(1,0,0)])=[(1,0,0)]:=rfl
  rw[b,c]
  have:bk ((ae x).length:Int) [(1,0,0)]=true:=by
   simp[bk,dE,a8,aY]
   omega
  rw[this];simp
theorem H9(S:Nat→Prop)(W:World):stpE.R S W [.int .i64 1, .int .i64 0, .int .i64 0] (1,0,0):=
 ⟨[_],_,rfl,⟨rfl,by unfold aE;decide⟩,[_],_,rfl,⟨rfl,by unfold aE;decide⟩,rfl,by unfold aE;decide⟩
theorem HX{S1 S2:Nat→Prop}(sa:Option Addr)(sc:Nat)(s:Sg)(x:Ent)(a1 a2:Option Addr)(c1 c2:Nat)(w:World)(h1:Sign S1 w sa sc s)(hn:(af x).size≤aB)(hb:(aC x).size≤aB)
  (hI:Ints S2 w a1 c1 (az x)) (hU:Sl strE S2 w a2 c2 (ae x)) (hp:ai x=[]):
  Calls Tryz.prog 61 #[.slice sa s.length sc,entV (af x) (aC x) (az x).length (ae x).length 0 a1 a2 none c1 c2 0] w fun e w'=>e= .returned (.bool (b9 s x))∧Below w.heap.size w w':=by
 have J:=hI.le
 have K:=hU.le
 have hs:=HY (s:=s) hp
 by_cases k:ae x=[]
 ·have o:(ae x).length=0:=by rw[k];rfl
  obtain⟨W,a⟩:∃W,w.alloc (.cells #[.string (af x), .string (aC x), .slice a1 (az x).length c1, .slice a2 (ae x).length c2, .slice none 0 0] 46)=W:=⟨_,rfl⟩
  have b:Below w.heap.size w W:=by rw[←a];exact an w _
  have D:W.cell? ⟨w.heap.size,0,none⟩=some (.string (af x)):=by rw[←a];clear a;go_simp
  have E:W.cell? ⟨w.heap.size,1,none⟩=some (.string (aC x)):=by rw[←a];clear a;go_simp
  have F:W.cell? ⟨w.heap.size,2,none⟩=some (.slice a1 (az x).length c1):=by rw[←a];clear a;go_simp
  have G:W.cell? ⟨w.heap.size,3,none⟩=some (.slice a2 (ae x).length c2):=by rw[←a];clear a;go_simp
  have H:W.cell? ⟨w.heap.size,4,none⟩=some (.slice none 0 0):=by rw[←a];clear a;go_simp
  have kv:=pu sa sc s x a1 a2 none c1 c2 0 W (h1.below b) hn hb (hI.below b) (hU.below b) (by rw[hp];exact .empty)
  have l:(ai x).length=0:=by rw[hp];rfl
  rw[hs.1 k,l]at kv
  have g:=Lib.hid kv
  have h:=Lib.hid b
  clear hs hI hU h1 hn hb kv b hp l k
  generalize af x=nm at*
  generalize aC x=y at*
  generalize (az x).length=B at*
  generalize (ae x).length=C at*
  subst o
  generalize b9 s x=ok at*
  dsimp only[entV]at g⊢
  go_enter Tryz.func61,Tryz.ntmps61
  go_wp2_with fail
  try rw[a]
  go_wp2_with fail
  refine g.out.mono ?_
  rintro e I ⟨rfl,c⟩
  have f:=Lib.hid (aa h.out c)
  clear c
  go_wp2_with fail
  go_ret
  exact⟨rfl,f.out⟩
 have r:(0<(ae x).length)=True:=eq_true (List.length_pos_iff.2 k)
 obtain⟨W,a⟩:∃W,((w.alloc (.cells #[.string (af x), .string (aC x), .slice a1 (az x).length c1, .slice a2 (ae x).length c2, .slice none 0 0] 46)).alloc (.cells #[.int .i64 1, .int .i64 0, .int .i64 0] 72)).setCell ⟨w.heap.size,4,none⟩ (.slice (some ⟨w.heap.size+1,0,none⟩) 1 1)=W:=⟨_,rfl⟩
 have b:Below w.heap.size w W:=by rw[←a];exact(aa (an w _) (an _ _)).setCell (p:=⟨w.heap.size,4,none⟩) (Nat.le_refl _) _
 have D:W.cell? ⟨w.heap.size,0,none⟩=some (.string (af x)):=by rw[←a];clear a;go_simp
 have E:W.cell? ⟨w.heap.size,1,none⟩=some (.string (aC x)):=by rw[←a];clear a;go_simp
 have F:W.cell? ⟨w.heap.size,2,none⟩=some (.slice a1 (az x).length c1):=by rw[←a];clear a;go_simp
 have G:W.cell? ⟨w.heap.size,3,none⟩=some (.slice a2 (ae x).length c2):=by rw[←a];clear a;go_simp
 have H:W.cell? ⟨w.heap.size,4,none⟩=some (.slice (some ⟨w.heap.size+1,0,none⟩) 1 1):=by rw[←a];clear a;go_simp
 have n:w.heap.size+1<W.heap.size:=by rw[←a];clear a;simp
 have t:W.cell? ⟨w.heap.size+1,0,none⟩=some (.int .i64 1):=by rw[←a];clear a;go_simp
 have u:W.cell? ⟨w.heap.size+1,1,none⟩=some (.int .i64 0):=by rw[←a];clear a;go_simp
 have v:W.cell? ⟨w.heap.size+1,2,none⟩=some (.int .i64 0):=by rw[←a];clear a;go_simp
 have q:Steps (fun _=>True) W (some ⟨w.heap.size+1,0,none⟩) 1 [(1,0,0)]:=by
  refine⟨Nat.le_refl _,by unfold aB;omega,(fun e=>by cases e),fun _=>⟨w.heap.size+1,0,rfl,trivial,n,fun i z=> ?_⟩⟩
  obtain rfl:i=0:=by simp at z;omega
  refine⟨[.int .i64 1, .int .i64 0, .int .i64 0],rfl,fun j A=> ?_,?_⟩
  ·simp only[List.length_cons,List.length_nil]at A
   rcases(show j=0∨j=1∨j=2 by omega)with e|e|e<;>subst e
   ·exact t
   ·exact u
   exact v
  exact H9 _ W
 have kv:=pu sa sc s (dm x [(1,0,0)]) a1 a2 (some ⟨w.heap.size+1,0,none⟩) c1 c2 1 W (h1.below b) hn hb (hI.below b).any (hU.below b).any q
 rw[hs.2 k]at kv
 have m:Calls Tryz.prog 49 #[.slice sa s.length sc,entV (af x) (aC x) (az x).length (ae x).length 1 a1 a2 (some ⟨w.heap.size+1,0,none⟩) c1 c2 1] W fun e w'=>e= .returned (.bool (b9 s x))∧Below W.heap.size W w':=kv
 have g:=Lib.hid m
 have h:=Lib.hid b
 clear hs hI hU h1 hn hb kv m b hp q t u v k
 generalize af x=nm at*
 generalize aC x=y at*
 generalize (az x).length=B at*
 generalize (ae x).length=C at*
 generalize b9 s x=ok at*
 dsimp only[entV]at g⊢
 go_enter Tryz.func61,Tryz.ntmps61
 go_wp2_with fail
 try rw[a]
 go_wp2_with fail
 refine g.out.mono ?_
 rintro e I ⟨rfl,c⟩
 have f:=Lib.hid (aa h.out c)
 clear c
 go_wp2_with fail
 go_ret
 exact⟨rfl,f.out⟩
theorem tG(l:List UInt8):-9223372036854775808≤co l∧co l≤9223372036854775807:=by
 unfold co
 split
 ·rename_i h;exact Lib.atoiAll_bounds h
 ·unfold Lib.atoiSat;split<;>omega
 omega
def GQ(r:Option Stp)(w:World)(e:Ending)(w':World):Prop:=(match r with|some x=>e= .returned (.tuple #[stpV x, .bool true])|none=>e= .returned (.tuple #[stpV (0,0,0), .bool false]))∧Below w.heap.size w w'
theorem HR{b:List UInt8}{v:List UInt8}{ws:List (List UInt8)}(h:aA 32 b=v::ws):dR b=dS v ws:=by unfold dR;rw[h];rfl
theorem HS{v:List UInt8}{ws:List (List UInt8)}{x:List UInt8}(hx:x∈ws)(h:¬Lib.itoa (co x)=x):dS v ws=none:=by
 unfold dS
 rw[if_neg]
 intro ha
 rw[List.all_eq_true]at ha
 have:=ha x hx
 rw[decide_eq_true_eq]at this
 exact h this
theorem zm{v x:List UInt8}(h:Lib.itoa (co x)=x):dS v [x]=if v=dU then some (1,co x,0)else none:=by unfold dS;simp[h]
theorem zn{v x y:List UInt8}(h:Lib.itoa (co x)=x)(k:Lib.itoa (co y)=y):dS v [x,y]=if v=dL then some (2,co x,co y)else none:=by unfold dS;simp[h,k]
theorem sf{v:List UInt8}{ws:List (List UInt8)}(h1:ws.length≠1)(h2:ws.length≠2):dS v ws=none:=by
 unfold dS
 split
 ·match ws,h1,h2 with
  | [],_,_=>rfl
  | [_],h1,_=>exact(h1 rfl).elim
  | [_,_],_,h2=>exact(h2 rfl).elim
  |_::_::_::_,_,_=>rfl
 rfl
theorem HT{v:List UInt8}{ws:List (List UInt8)}(h:∀x∈ws,Lib.itoa (co x)=x)(h1:¬(v=dU∧ws.length=1))(h2:¬(v=dL∧ws.length=2)):dS v ws=none:=by
 match ws,h,h1,h2 with
 | [],_,_,_=>exact sf (by simp) (by simp)
 | [x],h,h1,_=>rw[zm (h x (by simp)),if_neg (fun e=>h1 ⟨e,rfl⟩)]
 | [x,y],h,_,h2=>rw[zn (h x (by simp)) (h y (by simp)),if_neg (fun e=>h2 ⟨e,rfl⟩)]
 |_::_::_::_,_,_,_=>exact sf (by simp) (by simp)
theorem Iv{R:List ByteArray}(h:R.length=2):∃y z,R=[y,z]:=by
 match R,h with
 | [y,z],_=>exact⟨y,z,rfl⟩
theorem gR{B b:Nat}{w wr:World}(h:Below B w wr)(hb:B≤b)(v1 v2 v3:Value):Below B w (((wr.setCell ⟨b,0,none⟩ v1).setCell ⟨b,1,none⟩ v2).setCell ⟨b,2,none⟩ v3):=
 ((h.setCell (p:=⟨b,0,none⟩) hb _).setCell (p:=⟨b,1,none⟩) hb _).setCell (p:=⟨b,2,none⟩) hb _
def ze(r:List ByteArray)(w2:World)(nV iV:Value)(wr:World):Prop:=
 ∃k:Nat,iV= .int .i64 k∧k≤r.length∧OwnI wr w2.heap.size nV ((r.take k).map fun x=>co (bL x))∧(∀x∈r.take k,Lib.itoa (co (bL x))=bL x)∧Below w2.heap.size w2 wr
theorem H0(t:ByteArray)(ht:t.size≤65536)(w:World)(hL:LibW w):Calls Tryz.prog 62 #[.string t] w (GQ (dR (bL t)) w):=by
 obtain⟨W,hW⟩:∃W,w.alloc (.cells #[.int .i64 0, .int .i64 0, .int .i64 0] 72)=W:=⟨_,rfl⟩
 have hB:Below w.heap.size w W:=by rw[←hW];exact an w _
 have cm:w.heap.size<W.heap.size:=by rw[←hW];simp
 have g0:W.heap[w.heap.size]?=some (.cells #[.int .i64 0, .int .i64 0, .int .i64 0] 72 (0,0)):=by rw[←hW];exact heap_alloc_new w _
 have vs:=pq t (by omega) W (hL.later hB)
 have cH:=Lib.hid (hL.later hB)
 have cB:=Lib.hid hB
 have bw:=Lib.hid ht
 have c3:=Lib.hid vs
 have cv:=Lib.hid g0
 clear vs hB hL g0 ht
 go_enter Tryz.func62,Tryz.ntmps62
 go_wp2_with fail
 try rw[hW]
 go_wp2_with fail
 refine c3.out.mono ?_
 rintro e w1 ⟨L,rfl,J,aT⟩
 have av:=se (by have:=bw.out;omega) J W
 rw[←aT]at av
 have K:Below W.heap.size W w1:=by rw[aT];exact an W _
 cases L with
 |nil=>exact((eV 32 (bL t)) (by rw[show bL t=t.data.toList from rfl,←J];rfl)).elim
 |cons v r=>
 have ax:dR (bL t)=dS (bL v) (r.map bL):=HR (by rw[show bL t=t.data.toList from rfl,←J];rfl)
 have bu:r.length≤65537:=by
  have Y:=congrArg List.length J
  rw[pN,List.length_cons]at Y
  have h2:=ii 32 t.data.toList
  have h3:t.data.toList.length=t.size:=Array.length_toList
  have:=bw.out
  omega
 have aq:∀x∈r,x.size≤65536:=fun x hx=>by
  have:x.data.toList∈aI (v::r):=jz (List.mem_cons_of_mem _ hx)
  rw[J]at this
  have:=ik this
  have h2:x.data.toList.length=x.size:=Array.length_toList
  have h3:t.data.toList.length=t.size:=Array.length_toList
  have:=bw.out
  omega
 have c0:w1.cell? ⟨W.heap.size,0,none⟩=some (.string v):=by
  obtain⟨b,o,e1,e2⟩:=av.str0
  cases e1
  exact e2
 have T:=Strs.tail1 av
 rw[List.length_cons,Nat.add_sub_cancel]at T
 have g1:w1.heap[w.heap.size]?=some (.cells #[.int .i64 0, .int .i64 0, .int .i64 0] 72 (0,0)):=by rw[K.block _ cm];exact cv.out
 have c9:=Lib.hid K
 have O:=Lib.hid (aa cB.out K)
 have b6:=Lib.hid (cH.out.later K)
 have m:=Lib.hid ax
 have ab:=Lib.hid T
 have au:=Lib.hid aq
 have b4:=Lib.hid g1
 have ct:=Lib.hid c0
 have cn:w.heap.size<w1.heap.size:=Nat.lt_of_lt_of_le cm K.size
 cases r with
 |nil=>
  have a:=Lib.hid (show dR (bL t)=none by rw[m.out];exact sf (by simp) (by simp))
  have dy:=c0
  obtain⟨f,g,i⟩:=lK g1
  obtain⟨bA,bN,bP⟩:=nP g1
  clear ax aq T g1 K av J aT c0 b4 ct au ab m bu
  simp only[List.length_cons,List.length_nil]
  go_wp2_with fail
  go_loopw [5,15] (fun nV iV wr=>nV= .slice none 0 0∧iV= .int .i64 0∧wr=w1) (fun _ _ _=>0)
  case atStart=>exact⟨rfl,rfl,rfl⟩
  case round=>
   obtain⟨rfl,rfl,rfl⟩:=hrel
   by_cases I:bL v=dU
   ·have e1:=ql I
    have e2:=lC (fun e=>by rw[show bL v=v.data.toList from rfl,e]at I;revert I;decide:¬v.data.toList=dL)
    go_wp2_with fail
    all_goals(try simp only[Exit.inBlock,Exit.then])
    all_goals refine bodyPost_ret (by go_simp;simp[results,Tryz.results62,go_sem,f,g,i];try rfl) rfl ?_
    all_goals exact⟨by rw[a.out],gR O.out (Nat.le_refl _) _ _ _⟩
   have e1:=qr I
   by_cases hd:bL v=dL
   ·have e2:=qm hd
    go_wp2_with fail
    all_goals(try simp only[Exit.inBlock,Exit.then])
    all_goals refine bodyPost_ret (by go_simp;simp[results,Tryz.results62,go_sem,f,g,i];try rfl) rfl ?_
    all_goals exact⟨by rw[a.out],gR O.out (Nat.le_refl _) _ _ _⟩
   have e2:=lC hd
   go_wp2_with fail
   all_goals(try simp only[Exit.inBlock,Exit.then])
   all_goals refine bodyPost_ret (by go_simp;simp[results,Tryz.results62,go_sem,f,g,i];try rfl) rfl ?_
   all_goals exact⟨by rw[a.out],gR O.out (Nat.le_refl _) _ _ _⟩
 |cons x r=>
  have cj:¬r.length+1+1=1:=by omega
  rw[List.length_cons,if_neg cj]at T
  have Z:Sl strE (fun b=>W.heap.size≤b) w1 (some ⟨W.heap.size,1,none⟩) (x::r).length (x::r):=T
  obtain⟨R,hR⟩:∃R,x::r=R:=⟨_,rfl⟩
  rw[hR]at ax aq Z
  have ab:=Lib.hid Z
  have cc:r.length+1=R.length:=by rw[←hR];rfl
  have l:0<R.length:=by omega
  have H:R.length≤65537:=by rw[←hR];exact bu
  have m:=Lib.hid ax
  have au:=Lib.hid aq
  clear ax aq T Z g1 K av J aT bu
  simp only[List.length_cons,cc]
  clear cc cj hR
  obtain⟨n,hn⟩:∃n,R.length=n:=⟨_,rfl⟩
  have ch:(n=0)=False:=eq_false (by omega)
  rw[hn]
  go_wp2_with fail
  go_loopw [5,15] (fun nV iV wr=>ze R w1 nV iV wr) (fun _ iV _=>n-(intOf iV).toNat)
  case atStart=>exact⟨0,rfl,Nat.zero_le _, .nil _ _ _ _ _,fun x hx=>by simp at hx, .refl _ _⟩
  case round=>
   obtain⟨k,rfl,hk,hO,E,hb⟩:=hrel
   have g2:wr.heap[w.heap.size]?=some (.cells #[.int .i64 0, .int .i64 0, .int .i64 0] 72 (0,0)):=by rw[hb.block _ cn];exact b4.out
   have b7:=Lib.hid (b6.out.later hb)
   have s:=Lib.hid (aa O.out hb)
   by_cases cP:k<n
   ·have ag:k<R.length:=by omega
    obtain⟨b0,o0,e0,-,-,vs,e1,e2,e3⟩:=(ab.out.below hb).at1 k ag
    cases e0
    obtain⟨rfl,-⟩:=e3
    have q:=e2 0 (by rw[e1];exact Nat.one_pos)
    simp only[List.getElem_cons_zero,Nat.add_zero,show strE.size=1 from rfl,Nat.mul_one]at q
    have cl:=au.out R[k] (List.getElem_mem ag)
    have ca:=Ag R[k] cl wr b7.out
    have ad:=tG (bL R[k])
    have ci:=fun V (cO:Below wr.heap.size wr V)=>mE (co (bL R[k])) ad.1 ad.2 V (b7.out.later cO).1
    have a2:¬Lib.itoa (co (bL R[k]))=bL R[k]→dR (bL t)=none:=fun h=>by
     rw[m.out];exact HS (List.mem_map_of_mem (List.getElem_mem ag)) h
    have cp:=List.take_succ_eq_append_getElem ag
    have aj:((k:Int)<(n:Int))=True:=eq_true (by omega)
    have db:=ag
    have Q:=Lib.hid ca
    have G:=Lib.hid ci
    have M:=Lib.hid a2
    have cL:=Lib.hid hO
    have bl:=Lib.hid E
    have cf:=Lib.hid hb
    have ay:=Lib.hid cp
    obtain⟨f,g,i⟩:=lK g2
    obtain⟨bA,bN,bP⟩:=nP g2
    have cx:=Lib.hid g2
    clear ca ci a2 hO E hb cp e1 e2 g2
    obtain⟨X,hX⟩:∃X,R[k]=X:=⟨_,rfl⟩
    rw[hX]at q Q G M ay ad
    rw[show X.data.toList=bL X from rfl]at Q
    obtain⟨v0,bx⟩:∃v0,co (bL X)=v0:=⟨_,rfl⟩
    rw[bx]at Q G M ad
    have a9:=Lib.hid bx
    obtain⟨D,hD⟩:∃D:ByteArray,(⟨(Lib.itoa v0).toArray⟩:ByteArray)=D:=⟨_,rfl⟩
    have a3:∀V,Below wr.heap.size wr V→Calls Tryz.prog 107 #[.int .i64 v0] V fun e w'=>e= .returned (.string D)∧Below V.heap.size V w':=fun V hb=>by rw[←hD];exact G.out V hb
    have G:=Lib.hid a3
    have b5:D.data.toList=Lib.itoa v0:=by rw[←hD]
    have a0:=Lib.hid b5
    clear bx hX cl a3 hD b5
    go_wp2_with fail
    refine Q.out.mono ?_
    rintro e w3 ⟨ev,rfl,U⟩
    have cU:=cell_later U f
    have cW:=cell_later U g
    have c1:=cell_later U i
    have cu:=Lib.hid (G.out w3 U)
    have cd:=Lib.hid U
    clear U f g i q
    go_wp2_with fail
    refine cu.out.mono ?_
    rintro e w4 ⟨rfl,ce⟩
    have F:=aa cd.out ce
    have bm:=Lib.hid F
    have g4:w4.heap[w.heap.size]?=some (.cells #[.int .i64 0, .int .i64 0, .int .i64 0] 72 (0,0)):=by
     rw[F.block _ (by have:=cf.out.size;omega)];exact cx.out
    obtain⟨f,g,i⟩:=lK g4
    obtain⟨d5,d6,ea⟩:=nP g4
    have s:=Lib.hid (aa s.out F)
    have bf:=cL.out.call F
    clear F ce cU cW c1 bA bN bP g4
    by_cases he:Lib.itoa v0=bL X
    ·have hq:=fe (x:=D) (y:=X) (tH (by rw[a0.out,he];rfl))
     have bp:((R.take k).map fun x=>co (bL x)).length=k:=by rw[List.length_map,List.length_take];omega
     have ac:=aa cf.out bm.out
     have al:w1.heap.size≤w4.heap.size:=ac.size
     obtain⟨v',V,a5,ho,hg,-⟩:=OwnL.push (P:=Tryz.prog) (t:=41) (ty:=41) bf Tryz.underlying41 gW rfl (vs:=[.int .i64 v0]) (x:=v0) ⟨rfl,ad⟩ (by rw[bp];omega) (by rw[bp];unfold aB;omega) al
     have hrel:ze R w1 v' (.int .i64 ((k:Int)+1)) V:=by
      refine⟨k+1,by go_num,by omega,?_,?_,ac.grown hg al (fun j e=>(OwnL.lt bf j e).1)⟩
      ·rw[ay.out,List.map_append,List.map_singleton,a9.out];exact ho
      intro y hy
      rw[ay.out]at hy
      rcases List.mem_append.1 hy with e|e
      ·exact bl.out y e
      rw[List.mem_singleton.1 e,a9.out];exact he
     have bt:=Lib.hid hrel
     have bv:=Lib.hid a5
     clear hrel ho hg a5 bf ac al bp he
     go_wp2_with (at_builtin;refine bo rfl _ _ _ rfl rfl rfl bv.out ?_)
     all_goals go_roundw
     all_goals first|exact bt.out|(simp[intOf];done)|(simp[intOf];omega)
    have hq:=eM (x:=D) (y:=X) (fun e=>he (by rw[←a0.out,e];rfl))
    have a:=Lib.hid (M.out he)
    clear he
    go_wp2_with fail
    all_goals(try simp only[Exit.inBlock,Exit.then])
    all_goals refine bodyPost_ret (by go_simp;simp[results,Tryz.results62,go_sem,f,g,i];try rfl) rfl ?_
    all_goals exact⟨by rw[a.out],gR s.out (Nat.le_refl _) _ _ _⟩
   have aj:((k:Int)<(n:Int))=False:=eq_false (by omega)
   have a4:k=R.length:=by omega
   rw[a4,List.take_length]at hO E
   obtain⟨NS,aR⟩:∃NS,(R.map fun x=>co (bL x))=NS:=⟨_,rfl⟩
   rw[aR]at hO
   have S:NS.length=n:=by rw[←aR,List.length_map,hn]
   obtain⟨aN,cN,rfl,hN⟩:=OwnI.ints hO
   have cb:=hN.le
   obtain⟨f,g,i⟩:=lK g2
   obtain⟨bA,bN,bP⟩:=nP g2
   have c0:=cell_later hb c0
   have N:∀z∈R.map bL,Lib.itoa (co z)=z:=fun z hz=>by
    obtain⟨y,hy,rfl⟩:=List.mem_map.1 hz
    exact E y hy
   have bq:(R.map bL).length=n:=by rw[List.length_map,hn]
   have ao:∀(p:¬(bL v=dU∧n=1)) (q:¬(bL v=dL∧n=2)),dR (bL t)=none:=fun p q=>by
    rw[m.out];exact HT N (by rw[bq];exact p) (by rw[bq];exact q)
   have A:=Lib.hid ao
   have u:=Lib.hid N
   have b8:=Lib.hid hN
   have a1:=Lib.hid aR
   clear ao N hN aR hO E g2 hb a4 bq cP
   simp only[S]
   have c:bL v=dU→¬bL v=dL:=fun h e=>by rw[h]at e;revert e;decide
   by_cases I:bL v=dU
   ·have e1:=ql I
    have hd:=c I
    have e2:=lC hd
    by_cases Y:n=1
    ·obtain⟨y,hy⟩:=List.length_eq_one_iff.1 (hn.trans Y)
     have C:NS=[co (bL y)]:=by rw[←a1.out,hy];rfl
     have B:=b8.out
     rw[C]at B
     obtain⟨b1,o1,rfl,-,q1,-⟩:=B.int 0 (by simp)
     simp only[Nat.add_zero,List.getElem_cons_zero]at q1
     have a:=Lib.hid (show dR (bL t)=some (1,co (bL y),0)by
      rw[m.out,hy]
      show dS (bL v) [bL y]=_
      rw[zm (u.out _ (by rw[hy];simp)),if_pos I])
     have bn:k=1:=by have:=of_eq_false aj;omega
     generalize co (bL y)=v1 at*
     clear aj
     subst Y bn
     clear I hd C B hy S hk hn l H cb c ch
     go_wp2_with fail
     all_goals(try simp only[Exit.inBlock,Exit.then])
     all_goals refine bodyPost_ret (by go_simp;simp[results,Tryz.results62,go_sem,f,g,i];try rfl) rfl ?_
     all_goals exact⟨by rw[a.out],gR s.out (Nat.le_refl _) _ _ _⟩
    have cT:((n:Int)==1)=false:=by rw[beq_eq_false_iff_ne];omega
    have a:=Lib.hid (A.out (fun e=>Y e.2) (fun e=>hd e.1))
    clear I hd Y hk S hn l H c
    go_wp2_with fail
    all_goals(try simp only[Exit.inBlock,Exit.then])
    all_goals refine bodyPost_ret (by go_simp;simp[results,Tryz.results62,go_sem,f,g,i];try rfl) rfl ?_
    all_goals exact⟨by rw[a.out],gR s.out (Nat.le_refl _) _ _ _⟩
   have e1:=qr I
   by_cases hd:bL v=dL
   ·have e2:=qm hd
    by_cases Y:n=2
    ·obtain⟨y,z,hy⟩:=Iv (hn.trans Y)
     have C:NS=[co (bL y),co (bL z)]:=by rw[←a1.out,hy];rfl
     have B:=b8.out
     rw[C]at B
     obtain⟨b1,o1,rfl,-,q1,-⟩:=B.int 0 (by simp)
     obtain⟨dx,ec,ee,-,q2,-⟩:=B.int 1 (by simp)
     cases ee
     simp only[Nat.add_zero,List.getElem_cons_zero,List.getElem_cons_succ]at q1 q2
     have a:=Lib.hid (show dR (bL t)=some (2,co (bL y),co (bL z))by
      rw[m.out,hy]
      show dS (bL v) [bL y,bL z]=_
      rw[zn (u.out _ (by rw[hy];simp)) (u.out _ (by rw[hy];simp)),if_pos hd])
     have bn:k=2:=by have:=of_eq_false aj;omega
     generalize co (bL y)=v1 at*
     generalize co (bL z)=v2 at*
     clear aj
     subst Y bn
     clear I hd C B hy S hk hn l H cb c ch
     go_wp2_with fail
     go_region
     all_goals go_wp2_with fail
     all_goals(try simp only[Exit.inBlock,Exit.then])
     all_goals refine bodyPost_ret (by go_simp;simp[results,Tryz.results62,go_sem,f,g,i];try rfl) rfl ?_
     all_goals exact⟨by rw[a.out],by first|exact gR s.out (Nat.le_refl _) _ _ _|exact gR (Below.drew s.out) (Nat.le_refl _) _ _ _⟩
    have cT:((n:Int)==2)=false:=by rw[beq_eq_false_iff_ne];omega
    have a:=Lib.hid (A.out (fun e=>I e.1) (fun e=>Y e.2))
    clear I hd Y hk S hn l H c
    go_wp2_with fail
    all_goals(try simp only[Exit.inBlock,Exit.then])
    all_goals refine bodyPost_ret (by go_simp;simp[results,Tryz.results62,go_sem,f,g,i];try rfl) rfl ?_
    all_goals exact⟨by rw[a.out],gR s.out (Nat.le_refl _) _ _ _⟩
   have e2:=lC hd
   have a:=Lib.hid (A.out (fun e=>I e.1) (fun e=>hd e.1))
   clear I hd hk S hn l H c
   go_wp2_with fail
   all_goals(try simp only[Exit.inBlock,Exit.then])
   all_goals refine bodyPost_ret (by go_simp;simp[results,Tryz.results62,go_sem,f,g,i];try rfl) rfl ?_
   all_goals exact⟨by rw[a.out],gR s.out (Nat.le_refl _) _ _ _⟩
def jJ(n:Nat)(pd:Nat→Bool):Int:=match(List.range n).find? pd with|some i=>(i:Int)|none=>-1
theorem Ek{n k:Nat}{pd:Nat→Bool}(hk:k<n)(h1:∀j,j<k→pd j=false)(h2:pd k=true):jJ n pd=k:=by
 unfold jJ
 have:(List.range n).find? pd=some k:=by
  rw[List.find?_eq_some_iff_getElem]
  refine⟨h2,k,by rw[List.length_range];exact hk,List.getElem_range _,fun j a=> ?_⟩
  rw[List.getElem_range,h1 j a];rfl
 rw[this]
theorem wu{n:Nat}{pd:Nat→Bool}(h:∀j,j<n→pd j=false):jJ n pd=-1:=by
 unfold jJ
 have:(List.range n).find? pd=none:=by
  rw[List.find?_eq_none]
  intro x hx
  rw[h x (List.mem_range.1 hx)];simp
 rw[this]
def pk(g:FuncId)(cb:Array Value)(l:List Ent)(pd:Nat→Bool)(w:World):Prop:=
 ∀(i:Nat) (hi:i<l.length) (W:World),Below w.heap.size w W→∀(S:Nat→Prop) (n1 n3:Nat) (a1 a2 a3:Option Addr) (c1 c2 c3:Nat),Sl strE S W a2 c2 (ae l[i])→(af l[i]).size≤aB→
  Calls Tryz.prog g (#[entV (af l[i]) (aC l[i]) n1 (ae l[i]).length n3 a1 a2 a3 c1 c2 c3]++cb) W fun e w'=>e= .returned (.bool (pd i))∧Below W.heap.size W w'
def En(n:Nat)(pd:Nat→Bool)(w:World)(i:Value)(wr:World):Prop:=∃k:Nat,i= .int .i64 k∧k≤n∧(∀j,j<k→pd j=false)∧Below w.heap.size w wr
theorem Av{S:Nat→Prop}(a:Option Addr)(c:Nat)(l:List Ent)(g:FuncId)(cb:Array Value)(eg:∀args w,(callFunc g args).run Tryz.prog w= .ok (.enter g args) w)(pd:Nat→Bool)(w:World)(h:LibL S w a c l)(hf:pk g cb l pd w):
  Calls Tryz.prog 112 #[.slice a l.length c, .func (.func g) #[] cb] w fun e w'=>e= .returned (.int .i64 (jJ l.length pd))∧Below w.heap.size w w':=by
 have m:=h.le
 have J:=Lib.hid h
 have B:=Lib.hid hf
 clear h hf
 go_enter Tryz.func112,Tryz.ntmps112
 go_wp2_with fail
 go_loopw [8] (fun i wr=>En l.length pd w i wr) (fun i _=>l.length-(intOf i).toNat)
 case atStart=>exact⟨0,rfl,Nat.zero_le _,fun j C=>by omega, .refl _ _⟩
 case round=>
  obtain⟨k,rfl,M,p,r⟩:=hrel
  by_cases q:k<l.length
  ·obtain⟨b,O,D,G,E,H,F,I,rfl,-,X,Y,Z,p3,p4,P,Q,K,z,L⟩:=(J.out.below r).ent k q
   have v:=B.out k q wr r _ (az l[k]).length (ai l[k]).length D E F G H I z P
   have T:=z.le
   clear K z L Q
   generalize af l[k]=nm at*
   generalize aC l[k]=R at*
   generalize (az l[k]).length=U at*
   generalize (ae l[k]).length=V at*
   generalize (ai l[k]).length=W at*
   cases x:pd k with
   |true=>
    have o:=Ek q p x
    have u:=Lib.hid o
    rw[x]at v
    have t:=Lib.hid v
    have f:=Lib.hid r
    clear o v x p r
    go_wp2_with (first|(go_at_fn g;refine t.out.mono ?_;rintro e w2 ⟨rfl,A⟩)|go_in)
    go_ret
    exact⟨fd u.out.symm,f.out.trans (A.mono f.out.size)⟩
   |false=>
    have s:∀j,j<k+1→pd j=false:=fun j C=>by
     by_cases e:j=k
     ·subst e;exact x
     exact p j (by omega)
    rw[x]at v
    have t:=Lib.hid v
    have f:=Lib.hid r
    have y:=Lib.hid s
    clear v x p s r
    go_wp2_with (first|(go_at_fn g;refine t.out.mono ?_;rintro e w2 ⟨rfl,A⟩)|go_in)
    go_roundw
    case rel=>exact⟨k+1,by go_num,q,y.out,f.out.trans (A.mono f.out.size)⟩
    case measure=>simp[intOf];omega
  have N:((k:Int)<(l.length:Int))=False:=eq_false (by omega)
  have o:=Lib.hid (wu (n:=l.length) (pd:=pd) (fun j C=>p j (by omega)))
  have f:=Lib.hid r
  clear p r q M
  go_wp2_with fail
  go_ret
  exact⟨fd o.out.symm,f.out⟩
theorem Ej(n:Nat)(pd:Nat→Bool):(decide ((0:Int)≤jJ n pd))=(List.range n).any pd:=by
 by_cases h:∃k,k<n∧pd k=true
 ·obtain⟨k,a,c⟩:=h
  have ha:(List.range n).any pd=true:=List.any_eq_true.2 ⟨k,List.mem_range.2 a,c⟩
  rw[ha]
  unfold jJ
  cases hf:(List.range n).find? pd with
  |some i=>simp only;exact decide_eq_true (by omega)
  |none=>
   rw[List.find?_eq_none]at hf
   exact(hf k (List.mem_range.2 a) c).elim
 have b:∀j,j<n→pd j=false:=fun j f=>by
  cases e:pd j with
  |false=>rfl
  |true=>exact(h ⟨j,f,e⟩).elim
 rw[wu b]
 have ha:(List.range n).any pd=false:=by
  rw[List.any_eq_false]
  intro x hx
  rw[b x (List.mem_range.1 hx)];simp
 rw[ha];rfl
theorem Am{S:Nat→Prop}(a:Option Addr)(c:Nat)(l:List Ent)(g:FuncId)(cb:Array Value)(eg:∀args w,(callFunc g args).run Tryz.prog w= .ok (.enter g args) w)(pd:Nat→Bool)(w:World)(h:LibL S w a c l)(hf:pk g cb l pd w):
  Calls Tryz.prog 59 #[.slice a l.length c, .func (.func g) #[] cb] w fun e w'=>e= .returned (.bool ((List.range l.length).any pd))∧Below w.heap.size w w':=by
 have m:=h.le
 have i:=Lib.hid (Av a c l g cb eg pd w h hf)
 have b:=Lib.hid (Ej l.length pd)
 clear h hf
 go_enter Tryz.func59,Tryz.ntmps59
 go_wp2_with (go_at_call 112;refine i.out.mono ?_;rintro e w' ⟨rfl,f⟩)
 go_ret
 exact⟨aF b.out,f⟩
theorem Gl(xb:Nat)(nm bn:ByteArray)(v2 v3 v4:Value)(l:List Ent)(w:World)(h:w.heap[xb]?=some (.cells #[.string nm, .string bn,v2,v3,v4] 46 (0,0))):
  pk 60 #[.pointer (some ⟨xb,0,none⟩)] l (fun i=>decide (af (l.getD i default)=nm)) w:=by
 intro i A W j S C D p r s t u v o E
 have m:=o.le
 have g:xb<w.heap.size:=(Array.getElem?_eq_some_iff.1 h).1
 have n:=(j.block xb g).trans h
 obtain⟨W1,a⟩:∃W1,W.alloc (.cells #[.string (af l[i]), .string (aC l[i]), .slice p C t, .slice r (ae l[i]).length u, .slice s D v] 46)=W1:=⟨_,rfl⟩
 have c:Below W.heap.size W W1:=by rw[←a];exact an _ _
 have q:W1.cell? ⟨xb,0,none⟩=some (.string nm):=by
  have z:=(c.block xb (Nat.lt_of_lt_of_le g j.size)).trans n
  simp[World.cell?,z]
 have H:W1.cell? ⟨W.heap.size,0,none⟩=some (.string (af l[i])):=by rw[←a];clear a;go_simp
 have hg:l.getD i default=l[i]:=jD A
 have b:=Lib.hid c
 simp only[hg]
 clear j h n o c hg
 generalize af l[i]=k at*
 generalize aC l[i]=G at*
 generalize (ae l[i]).length=F at*
 by_cases e:k=nm
 ·have B:=fe (x:=k) (y:=nm) e
  have f:=Lib.hid (decide_eq_true e)
  clear e
  dsimp only[entV]
  go_enter Tryz.func60,Tryz.ntmps60
  go_wp2_with fail
  try rw[a]
  try go_wp2_with fail
  go_ret
  exact⟨aF f.out.symm,b.out⟩
 have B:=eM (x:=k) (y:=nm) e
 have f:=Lib.hid (decide_eq_false e)
 clear e
 dsimp only[entV]
 go_enter Tryz.func60,Tryz.ntmps60
 go_wp2_with fail
 try rw[a]
 try go_wp2_with fail
 go_ret
 exact⟨aF f.out.symm,b.out⟩
theorem A0{α:Type}(l:List α)(d:α)(f:α→Bool):(List.range l.length).any (fun i=>f (l.getD i d))=l.any f:=by
 rw[Bool.eq_iff_iff,List.any_eq_true,List.any_eq_true]
 constructor
 ·rintro⟨i,a,h⟩
  rw[List.mem_range]at a
  rw[List.getD_eq_getElem?_getD,List.getElem?_eq_getElem a]at h
  exact⟨l[i],List.getElem_mem a,h⟩
 rintro⟨x,hx,h⟩
 obtain⟨i,a,rfl⟩:=List.getElem_of_mem hx
 exact⟨i,List.mem_range.2 a,by rw[List.getD_eq_getElem?_getD,List.getElem?_eq_getElem a];exact h⟩
def kB(s:Sg)(acc:List Ent)(b:List UInt8)(xb:Nat)(w:World)(e:Ending)(w':World):Prop:=
 Below xb w w'∧(match bK s acc b with
  |some acc'=>e= .returned (.bool true)∧∃lv,PS w' (xb+1) lv acc'∧w'.heap[xb]?=some (.cells #[lv] 24 (0,0))
  |none=>e= .returned (.bool false)∧∃lv,w'.heap[xb]?=some (.cells #[lv] 24 (0,0)))
theorem jo{s:Sg}{acc:List Ent}{b:List UInt8}{xb:Nat}{w w':World}{lv:Value}(h:bK s acc b=none)(hb:Below xb w w')(hx:w'.heap[xb]?=some (.cells #[lv] 24 (0,0))):kB s acc b xb w (.returned (.bool false)) w':=by
 unfold kB;rw[h];exact⟨hb,rfl,lv,hx⟩
theorem yn{s:Sg}{acc acc':List Ent}{b:List UInt8}{xb:Nat}{w w':World}{lv:Value}(h:bK s acc b=some acc')(hb:Below xb w w')(hP:PS w' (xb+1) lv acc')(hx:w'.heap[xb]?=some (.cells #[lv] 24 (0,0))):kB s acc b xb w (.returned (.bool true)) w':=by
 unfold kB;rw[h];exact⟨hb,rfl,lv,hP,hx⟩
theorem BE{W:World}{b:Nat}{u v:Value}{t:TypeId}(h:W.heap[b]?=some (.cells #[u] t (0,0))):(W.setCell ⟨b,0,none⟩ v).heap[b]?=some (.cells #[v] t (0,0)):=by
 unfold World.setCell
 simp only[Array.getElem?_modify,if_true,h,Option.map_some]
 rfl
section
variable {w w':World}{base:Nat}{lv pv:Value}{A:List Ent}{y:Ent}{vs:List Value}
theorem PS1.keep(h:PS1 w base lv A y pv vs)(hA:∀b,base≤b→b<w.heap.size→w'.heap[b]?=w.heap[b]?):PS1 w' base lv A y pv vs:=
 ⟨h.own.kept (fun k j=>hA k (h.own.lt k j).1 (h.own.lt k j).2) (fun b g f=>hA b g.1.1 f),h.len,h.dif,fun i n o=>by
  obtain⟨a,c,l,m⟩:=h.done i n o
  exact⟨a,c,l,m.same (fun b g f=>hA b g.1.1 f)⟩,h.last.kept (fun k j=>hA k (h.last.lt k j).1 (h.last.lt k j).2) (fun b g _=>g.1.elim)⟩
theorem PS.keep{acc:List Ent}(h:PS w base lv acc)(hA:∀b,base≤b→b<w.heap.size→w'.heap[b]?=w.heap[b]?):PS w' base lv acc:=by
 rcases h with h|⟨A,y,a,vs,e,h⟩
 ·exact .inl h
 exact .inr ⟨A,y,a,vs,e,h.keep hA⟩
end
theorem qE(s:Sg)(x:Ent):(af x).size≤(aZ s x).length∧(aC x).size≤(aZ s x).length:=by
 have a:(bL (af x)).length=(af x).size:=Array.length_toList
 have b:(bL (aC x)).length=(aC x).size:=Array.length_toList
 rw[lE,List.length_append]
 unfold fD
 simp[aS,d7,dZ]
 omega
theorem DI{s:Sg}{t:ByteArray}{w w':World}{e:Ending}(h:jn s t w e w'):∃nm bn n1 n2 a1 a2 c1 c2 is,e= .returned (.tuple #[entV nm bn n1 n2 0 a1 a2 none c1 c2 0, .bool is])∧n1≤aB∧n2≤aB∧Below w.heap.size w w'∧(is=false→bX s (bL t)=none)∧
  (is=true→∃says uses,dH s (bL t)=some (nm,bn,says,uses,[])∧aZ s (nm,bn,says,uses,[])=bL t∧n1=says.length∧n2=uses.length∧Ints (fun b=>w.heap.size≤b) w' a1 c1 says∧Sl strE (fun b=>w.heap.size≤b) w' a2 c2 uses):=by
 obtain⟨h,g⟩:=h
 cases hd:dH s (bL t)with
 |none=>
  rw[hd]at h
  exact⟨_,_,_,_,_,_,_,_,false,h,Nat.zero_le _,Nat.zero_le _,g,fun _=>DG hd,fun e=>by cases e⟩
 |some x=>
  rw[hd]at h
  obtain⟨a1,c1,a2,c2,e,c,f⟩:=h
  have i:=vy hd
  obtain⟨nm,bn,says,uses,j⟩:=x
  have a:j=[]:=i
  subst a
  refine⟨_,_,_,_,_,_,_,_,_,e,c.le,f.le,g,fun hg=> ?_,fun hg=>⟨says,uses,rfl,of_decide_eq_true hg,rfl,rfl,c,f⟩⟩
  exact vB hd (fun k=>of_decide_eq_false hg k.2)
theorem Gy(k:Nat)(h:k≤1000):wrap64 (k:Int)=(k:Int):=Go.IntWalk.wrap64_in _ (by omega)
theorem mg(k:Nat):(((k:Int)+1)==0)=false:=by rw[beq_eq_false_iff_ne];omega
theorem Gr(k:Nat):(k:Int)<(k:Int)+1:=by omega
theorem Gs(k:Nat):(0:Int)≤(k:Int):=by omega
theorem HP{b:List UInt8}{x:Stp}(h:dR b=some x):fP x:=by
 have f:∀v∈(aA 32 b).tail.map co,aE v:=fun v g=>by
  obtain⟨w,-,rfl⟩:=List.mem_map.1 g
  have:=tG w
  unfold aE;omega
 unfold dR dS at h
 split at h
 ·generalize (aA 32 b).tail.map co=L at h f
  match L,h,f with
  | [],h,_=>simp at h
  | [a],h,f=>
   simp only at h
   split at h
   ·injection h with h;rw[←h]
    exact⟨(show aE (1:Int)by unfold aE;omega),f a (by simp),(show aE (0:Int)by unfold aE;omega)⟩
   cases h
  | [a,c],h,f=>
   simp only at h
   split at h
   ·injection h with h;rw[←h]
    exact⟨(show aE (2:Int)by unfold aE;omega),f a (by simp),f c (by simp)⟩
   cases h
  |_::_::_::_,h,_=>simp at h
 cases h
theorem GA{S1:Nat→Prop}(sa:Option Addr)(sc:Nat)(s:Sg)(t:ByteArray)(ht:t.size≤65536)(xb:Nat)(lv:Value)(acc:List Ent)(w:World)(h1:Sign S1 w sa sc s)(hL:LibW w)(hx:w.heap[xb]?=some (.cells #[lv] 24 (0,0)))(hP:PS w (xb+1) lv acc)(hl:acc.length≤60)(hpl:∀z∈acc,(ai z).length≤60):
  Calls Tryz.prog 23 #[.slice sa s.length sc, .pointer (some ⟨xb,0,none⟩), .string t] w (kB s acc (bL t) xb w):=by
 have ci:xb<w.heap.size:=(Array.getElem?_eq_some_iff.1 hx).1
 obtain⟨la,lc,ct,cl⟩:=hP.ent
 have m1:=h1.le
 have c7:=cl.le
 have q0:w.cell? ⟨xb,0,none⟩=some (.slice la acc.length lc):=by rw[←ct];simp[World.cell?,hx]
 obtain⟨N,hN⟩:∃N,acc.length=N:=⟨_,rfl⟩
 have B:=Lib.hid hN
 rw[hN]at hl c7 q0
 clear hN
 have vh:=Lib.hid (DJ sa sc s t ht w h1 hL)
 have f3:=Lib.hid h1
 have f7:=Lib.hid hL
 have gr:=Lib.hid hx
 have ay:=Lib.hid hP
 have b8:=Lib.hid cl
 have d5:=Lib.hid hpl
 clear hpl
 have ad:=Lib.hid ct
 have f:=Lib.hid ci
 have gp:=Lib.hid (show(bL t).length=t.size from Array.length_toList)
 clear h1 hL hx hP cl ct ci
 go_enter Tryz.func23,Tryz.ntmps23
 go_wp2_with fail
 refine vh.out.mono ?_
 rintro e w1 hr
 obtain⟨nm,bn,n1,n2,a1,a2,c1,c2,is,rfl,k1,k2,dn,cu,a9⟩:=DI hr
 have aL:=Lib.hid dn
 clear hr dn
 obtain⟨U,bv⟩:∃U,w1.alloc (.cells #[.string nm, .string bn, .slice a1 n1 c1, .slice a2 n2 c2, .slice none 0 0] 46)=U:=⟨_,rfl⟩
 have aN:Below w1.heap.size w1 U:=by rw[←bv];exact an w1 _
 have Q:=Lib.hid (aa aL.out aN)
 have r2:U.heap[w1.heap.size]?=some (.cells #[.string nm, .string bn, .slice a1 n1 c1, .slice a2 n2 c2, .slice none 0 0] 46 (0,0)):=by rw[←bv];exact heap_alloc_new w1 _
 have x2:U.heap[xb]?=some (.cells #[lv] 24 (0,0)):=(Q.out.block xb f.out).trans gr.out
 have q2:U.cell? ⟨xb,0,none⟩=some (.slice la N lc):=by rw[←B.out,←ad.out];simp[World.cell?,x2]
 have ho:xb<w1.heap.size:=Nat.lt_of_lt_of_le f.out aL.out.size
 have hv:¬xb=w1.heap.size:=by omega
 have q1:w1.cell? ⟨xb,0,none⟩=some (.slice la N lc):=cell_later aL.out q0
 dsimp only[entV]
 have ca:=Lib.hid bv
 clear bv
 cases is with
 |true=>
  obtain⟨D,E,hd,bN,rfl,rfl,hI,hU⟩:=a9 rfl
  clear cu a9
  have hz:nm.size≤65536∧bn.size≤65536:=by
   have h2:=qE s (nm,bn,D,E,[])
   rw[bN,gp.out]at h2
   exact⟨Nat.le_trans h2.1 ht,Nat.le_trans h2.2 ht⟩
  have ax:=b8.out.below Q.out
  have vc:=Am la lc acc 60 #[.pointer (some ⟨w1.heap.size,0,none⟩)] (enters_of Tryz.func60 (by kernel_rfl) rfl) (fun i=>decide (af (acc.getD i default)=nm)) U ax (Gl w1.heap.size nm bn _ _ _ acc U r2)
  rw[A0 acc default (fun y=>decide (af y=nm))]at vc
  obtain⟨tw,b5⟩:∃tw,acc.any (fun y=>decide (af y=nm))=tw:=⟨_,rfl⟩
  obtain⟨ow,bW⟩:∃ow,de acc=ow:=⟨_,rfl⟩
  obtain⟨ok,bU⟩:∃ok,b9 s (nm,bn,D,E,[])=ok:=⟨_,rfl⟩
  rw[b5,B.out]at vc
  have vo:=fun W3 (C:Below U.heap.size U W3)=>xH la lc acc W3 (ax.below C) (by rw[B.out];omega)
  simp only[bW,B.out]at vo
  have cj:=hI.below aN
  have cn:=hU.below aN
  have vs:=fun W3 (C:Below U.heap.size U W3)=>HX sa sc s (nm,bn,D,E,[]) a1 a2 c1 c2 W3 ((f3.out.below Q.out).below C) (show nm.size≤aB by have:=hz.1;unfold aB;omega) (show bn.size≤aB by have:=hz.2;unfold aB;omega) (cj.below C) (cn.below C) rfl
  simp only[bU]at vs
  have g2:=Lib.hid vc
  have g4:=Lib.hid vo
  have g6:=Lib.hid vs
  have c5:=Lib.hid cj
  have db:=Lib.hid cn
  have eg:=Lib.hid hz
  have J:=Lib.hid (fun(h:¬(ow=false∧tw=false∧acc.length≠60∧ok=true))=>Gv (s:=s) (acc:=acc) hd bN (fun e=>h ⟨by rw[←bW];exact e.1,by rw[←b5];exact e.2.1,e.2.2.1,by rw[←bU];exact e.2.2.2⟩))
  have cy:=Lib.hid (fun(h:ow=false∧tw=false∧acc.length≠60∧ok=true)=>Gn (s:=s) (acc:=acc) hd bN (by rw[bU];exact h.2.2.2) (by rw[bW];exact h.1) (by show acc.any (fun y=>decide (af y=nm))=false;rw[b5];exact h.2.1) h.2.2.1)
  have en:=Lib.hid r2
  have L:=Lib.hid x2
  clear vc vo vs hI hU cj cn hz ax hd bN b5 bW bU r2 x2 aN
  go_wp2_with fail
  rw[ca.out]
  refine g2.out.mono ?_
  rintro e G ⟨rfl,u⟩
  have q3:G.cell? ⟨xb,0,none⟩=some (.slice la N lc):=cell_later u q2
  have T:=Lib.hid ((u.block xb (Array.getElem?_eq_some_iff.1 L.out).1).trans L.out)
  have q:=Lib.hid u
  have aT:=Lib.hid ((aa Q.out u).mono (Nat.le_of_lt f.out))
  have ev:=g4.out G u
  have ex:=Lib.hid ev
  clear u ev
  go_wp2_with fail
  refine ex.out.mono ?_
  rintro e w4 ⟨rfl,rfl⟩
  cases ow with
  |true=>
   have l:=Lib.hid (jo (xb:=xb) (w:=w) (w':=G) (J.out (fun h=>by cases h.1)) aT.out T.out)
   go_wp2_with fail
   all_goals go_ret
   all_goals exact l.out
  |false=>
  cases tw with
  |true=>
   have l:=Lib.hid (jo (xb:=xb) (w:=w) (w':=G) (J.out (fun h=>by cases h.2.1)) aT.out T.out)
   go_wp2_with fail
   all_goals go_ret
   all_goals exact l.out
  |false=>
  by_cases bq:N=60
  ·have l:=Lib.hid (jo (xb:=xb) (w:=w) (w':=G) (J.out (fun h=>h.2.2.1 (by rw[B.out];exact bq))) aT.out T.out)
   have f1:((N:Int)==60)=true:=by rw[beq_iff_eq];omega
   clear bq
   go_wp2_with fail
   all_goals go_ret
   all_goals exact l.out
  have f1:((N:Int)==60)=false:=by rw[beq_eq_false_iff_ne];omega
  have r3:=(q.out.block w1.heap.size (Array.getElem?_eq_some_iff.1 en.out).1).trans en.out
  obtain⟨⟨y0,y1,y2,y3,y4⟩,-⟩:=eW r3
  have er:=Lib.hid r3
  clear r3
  have cW:=Lib.hid bq
  clear bq
  go_wp2_with fail
  refine(g6.out G q.out).mono ?_
  rintro e w5 ⟨rfl,bx⟩
  have O:=Lib.hid bx
  have ha:=Lib.hid ((bx.block xb (Array.getElem?_eq_some_iff.1 T.out).1).trans T.out)
  have ds:=Lib.hid ((aa (aa Q.out q.out) bx).mono (Nat.le_of_lt f.out))
  clear bx
  cases ok with
  |false=>
   have l:=Lib.hid (jo (xb:=xb) (w:=w) (w':=w5) (J.out (fun h=>by cases h.2.2.2)) ds.out ha.out)
   go_wp2_with fail
   all_goals go_ret
   all_goals exact l.out
  |true=>
   have a4:=Lib.hid (cy.out ⟨by first|trivial|rfl,by first|trivial|rfl,by rw[B.out];exact cW.out,by first|trivial|rfl⟩)
   have q5:w5.drew.cell? ⟨xb,0,none⟩=some (.slice la N lc):=show w5.cell? ⟨xb,0,none⟩=some (.slice la N lc)from cell_later O.out q3
   have r5:w5.drew.heap[w1.heap.size]?=some (.cells #[.string nm, .string bn, .slice a1 D.length c1, .slice a2 E.length c2, .slice none 0 0] 46 (0,0)):=(O.out.block w1.heap.size (Array.getElem?_eq_some_iff.1 er.out).1).trans er.out
   obtain⟨⟨z0,z1,z2,z3,z4⟩,-⟩:=eW r5
   have i3:(w5.alloc (.cells #[.string nm, .string bn, .slice a1 D.length c1, .slice a2 E.length c2, .slice none 0 0] 46)).cell? ⟨xb,0,none⟩=some (.slice la N lc):=cell_later (an w5 _) q5
   have x5:w5.drew.heap[xb]?=some (.cells #[lv] 24 (0,0)):=((aa q.out O.out).block xb (Array.getElem?_eq_some_iff.1 L.out).1).trans L.out
   have ab:Below w.heap.size w w5.drew:=(aa (aa Q.out q.out) O.out).drew
   have aO:Below U.heap.size U w5.drew:=(aa q.out O.out).drew
   have c9:=ay.out.below ab
   have ec:w.heap.size≤w5.drew.heap.size:=ab.size
   have a0:∀b,w.heap.size≤b→bZ (fun b=>xb+1≤b) lv b:=fun b C=>⟨by have:=f.out;omega,fun e=>by have:=(ay.out.lt b e.symm).2;omega⟩
   have b6:=B.out
   have ef:=f.out
   obtain⟨v',F,R,cm,n⟩:=c9.push (P:=Tryz.prog) (t:=24) (ty:=24) Tryz.underlying24 lF rfl (x:=(nm,bn,D,E,[])) (show nm.size≤aB by have:=eg.out.1;unfold aB;omega) (show bn.size≤aB by have:=eg.out.2;unfold aB;omega)
    ((c5.out.below aO).weak a0) ((db.out.below aO).weak a0) rfl (by omega) (by unfold aB;omega) (by omega)
   obtain⟨a',c',K,-⟩:=cm.ent
   rw[List.length_append,List.length_singleton,b6]at K
   have ba:(Builtin.append_ #[24,24] 24 #[.slice la N lc, .slice (some ⟨w5.heap.size,0,none⟩) 1 1]).run Tryz.prog (w5.drew.alloc (.cells #[.string nm, .string bn, .slice a1 D.length c1, .slice a2 E.length c2, .slice none 0 0] 46))= .ok (.slice a' (N+1) c') F:=by
    rw[←K,←b6,←ad.out];exact R
   have H:lv.ownBlock≠some xb:=fun e=>by have:=(ay.out.lt xb e).1;omega
   have x6:F.heap[xb]?=some (.cells #[lv] 24 (0,0)):=(n.block xb (Array.getElem?_eq_some_iff.1 x5).1 (fun e=>H e.symm)).trans x5
   have rc:F.cell? ⟨xb,0,none⟩=some (.slice la N lc):=by rw[←b6,←ad.out];simp[World.cell?,x6]
   have rf:F.frozen? ⟨xb,0,none⟩=false:=Lib.frozen_of_heap x6 0
   have l:=Lib.hid (yn (xb:=xb) (w:=w) (w':=F.setCell ⟨xb,0,none⟩ (.slice a' (N+1) c')) a4.out
    (((ab.mono (Nat.le_of_lt ef)).grown n (by omega) (fun k e=>by have:=(ay.out.lt k e).1;omega)).setCell (p:=⟨xb,0,none⟩) (Nat.le_refl _) _)
    (by rw[←K];exact cm.keep (fun b C _=>Below.heap_setCell _ _ _ _ (by show¬b=xb;omega))) (BE x6))
   clear R cm n K c9 a0 x5 x6 r5 ab aO ec H q3 q2 b6 ef
   go_wp2_with fail
   go_region_law (rw[if_pos (by kernel_rfl)];refine gj (.tmp 51) (.tmp 53) _ rfl rfl rfl ba ?_)
   all_goals go_wp2_with fail
   all_goals go_ret
   all_goals exact l.out
 |false=>
  have bX:=cu rfl
  clear cu a9
  have c6:=f7.out.later Q.out
  have so:=Lib.hid (H0 t ht U c6)
  have aU:=Lib.hid bX
  have L:=Lib.hid x2
  clear bX c6 x2 r2 aN
  go_wp2_with fail
  rw[ca.out]
  refine so.out.mono ?_
  rintro e G ⟨b4,u⟩
  have T:=Lib.hid ((u.block xb (Array.getElem?_eq_some_iff.1 L.out).1).trans L.out)
  have q:=Lib.hid u
  have M:=Lib.hid (aa Q.out u)
  have i1:G.cell? ⟨xb,0,none⟩=some (.slice la N lc):=cell_later u q2
  have hq:xb<G.heap.size:=by have:=M.out.size;have:=f.out;omega
  have hw:¬xb=G.heap.size:=by omega
  clear u
  cases X:dR (bL t)with
  |none=>
   rw[X]at b4
   subst b4
   have l:=Lib.hid (fun(W:World) (C:Below G.heap.size G W)=>jo (xb:=xb) (w:=w) (w':=W) (Gu (acc:=acc) aU.out X) ((aa M.out C).mono (Nat.le_of_lt f.out)) ((C.block xb (Array.getElem?_eq_some_iff.1 T.out).1).trans T.out))
   clear X
   go_wp2_with fail
   all_goals go_ret
   all_goals exact l.out _ (an G _)
  |some x=>
   rw[X]at b4
   subst b4
   have cx:=HP X
   obtain⟨x0,xa,xc⟩:=x
   obtain⟨r,bw⟩:∃r,G.alloc (.cells #[.int .i64 x0, .int .i64 xa, .int .i64 xc] 72)=r:=⟨_,rfl⟩
   have aP:Below G.heap.size G r:=by rw[←bw];exact an G _
   have o:=Lib.hid (aa M.out aP)
   have s4:r.heap[G.heap.size]?=some (.cells #[.int .i64 x0, .int .i64 xa, .int .i64 xc] 72 (0,0)):=by rw[←bw];exact heap_alloc_new G _
   have x4:r.heap[xb]?=some (.cells #[lv] 24 (0,0)):=((aa q.out aP).block xb (Array.getElem?_eq_some_iff.1 L.out).1).trans L.out
   have eb:=Lib.hid X
   have Y:=Lib.hid bw
   clear X bw
   cases N with
   |zero=>
    have e0:acc=[]:=List.length_eq_zero_iff.1 B.out
    have l:=Lib.hid (jo (xb:=xb) (w:=w) (w':=r) (show bK s acc (bL t)=none by rw[e0];exact ye aU.out) (o.out.mono (Nat.le_of_lt f.out)) x4)
    clear e0 s4 x4 aP cx
    go_wp2_with fail
    rw[Y.out]
    try go_wp2_with fail
    all_goals go_ret
    all_goals exact l.out
   |succ k=>
    have ee:=Lib.hid (Gy k (by omega))
    have cs:=Lib.hid (mg k)
    have d0:=Lib.hid (Gr k)
    have dO:=Lib.hid (Gs k)
    rcases ay.out with⟨e0,-⟩|⟨A,y,pv,vs,eA,h0⟩
    ·have:=B.out;rw[e0]at this;cases this
    have bt:A.length=k:=by have:=B.out;rw[eA,List.length_append,List.length_singleton]at this;omega
    obtain⟨g,fz,bP,dB,gf,-,-⟩:=h0.at
    have gk:la=some ⟨g,0,none⟩∧lc=fz:=by
     have:=ad.out
     rw[bP]at this
     injection this with e1 e2 e3
     exact⟨e1.symm,e3.symm⟩
    obtain⟨rfl,rfl⟩:=gk
    have h4:=h0.below o.out
    obtain⟨g',he,e',-,aW,c4,f4⟩:=h4.at
    have gc:g'=g:=by
     rw[bP]at e'
     injection e' with e1
     injection e1 with e1
     injection e1 with e1
     exact e1.symm
    subst gc
    have b7:=b8.out.below M.out
    have d4:A.length<acc.length:=by rw[B.out];omega
    obtain⟨v,gs,b1,d1,b2,d2,b3,d3,ea,-,p0,p1,p2,p3,p4,z1,z2,gI,gU,gP⟩:=b7.ent A.length d4
    have gb:v=g'∧gs=0:=by
     injection ea with ea
     injection ea with e1 e2
     exact⟨e1.symm,e2.symm⟩
    obtain⟨rfl,rfl⟩:=gb
    have hy:acc[A.length]=y:=by simp[eA]
    rw[hy]at p3 gU
    have ed:=gU.le
    obtain⟨n2,bS⟩:∃n2,(ae y).length=n2:=⟨_,rfl⟩
    rw[bS,bt]at p3
    rw[bt]at c4 f4
    rw[bS]at ed
    simp only[Nat.zero_add]at p3
    have hs:v<G.heap.size:=by have:=M.out.size;omega
    have hA:¬v=G.heap.size:=by omega
    have gu:=Lib.hid (show r.cell? ⟨v,k*5+3,none⟩=some (.slice b2 n2 d2)from cell_later aP p3)
    have a4:=Lib.hid (Gx (A:=A) (y:=y) aU.out eb.out)
    have Z:=Lib.hid eA
    have ag:=Lib.hid bS
    have c3:=Lib.hid bt
    have f6:=Lib.hid h4
    have hX:=Lib.hid h0
    have g1:=Lib.hid s4
    have bl:=Lib.hid x4
    have cf:=Lib.hid bP
    have cd:=Lib.hid dB
    have a5:=Lib.hid cx
    have h6:=ee.out
    have hn:=cs.out
    have h3:=d0.out
    have hY:=dO.out
    clear p0 p1 p2 p4 z1 z2 gI gU gP hy b7 d4 eA bS bt h4 h0 bP dB e' cx b1 d1 b3 d3 s4 x4 aP gf
    cases n2 with
    |zero=>
     have l:=Lib.hid (jo (xb:=xb) (w:=w) (w':=r) (show bK s acc (bL t)=none by rw[Z.out,a4.out,if_neg (fun e=>e.1 (List.length_eq_zero_iff.1 ag.out))]) (o.out.mono (Nat.le_of_lt f.out)) bl.out)
     go_wp2_with fail
     all_goals(try rw[Y.out])
     all_goals(try go_wp2_with fail)
     all_goals go_ret
     all_goals first|exact l.out|(rw[Y.out];exact l.out)
    |succ m2=>
     have hu:=mg m2
     have aR:Below r.heap.size r r.drew:=(Below.refl _ r).drew
     have I:=f6.out.below aR
     obtain⟨ap,cp,a3,d6⟩:=I.last.steps
     obtain⟨m,hm⟩:∃m,(ai y).length=m:=⟨_,rfl⟩
     have h5:m≤1000000:=by
      have h9:=d5.out y (by rw[Z.out];simp)
      rw[hm]at h9
      exact Nat.le_trans h9 (by decide)
     obtain⟨v',F,R,cv,n,cb⟩:=I.last.push (P:=Tryz.prog) (t:=44) (ty:=44) Tryz.underlying44 jd rfl (vs:=[.int .i64 x0, .int .i64 xa, .int .i64 xc]) (x:=(x0,xa,xc))
      ⟨[_],_,rfl,⟨rfl,a5.out.1⟩,[_],_,rfl,⟨rfl,a5.out.2.1⟩,rfl,a5.out.2.2⟩ (by rw[hm];omega) (by rw[hm];unfold aB;omega) (by show xb+1≤r.heap.size;have:=o.out.size;have:=f.out;omega)
     obtain⟨a',c',K,ch⟩:=(show OwnSt F (xb+1) v' (ai y++[(x0,xa,xc)])from cv).steps
     have V:(ai y++[(x0,xa,xc)]).length=m+1:=by rw[List.length_append,List.length_singleton,hm]
     rw[V]at K
     rw[hm]at a3
     have dx:=I.dif
     have ce:pv.ownBlock≠some v:=fun e=>I.dif v e (by rw[cf.out];rfl)
     have H:pv.ownBlock≠some xb:=fun e=>by have:=(I.last.lt xb e).1;omega
     have ac:F.heap[v]?=r.heap[v]?:=n.block v aW (fun e=>ce e.symm)
     have iV:F.cell? ⟨v,k*5+3,none⟩=some (.slice b2 (m2+1) d2):=by
      rw[←gu.out];unfold World.cell?;simp only[ac]
     have ba:(Builtin.append_ #[44,44] 44 #[.slice ap m cp, .slice (some ⟨r.heap.size,0,none⟩) 1 1]).run Tryz.prog (r.drew.alloc (.cells #[.int .i64 x0, .int .i64 xa, .int .i64 xc] 72))= .ok (.slice a' (m+1) c') F:=by
      rw[←K,←a3];exact R
     have hM:(r.alloc (.cells #[.int .i64 x0, .int .i64 xa, .int .i64 xc] 72)).cell? ⟨v,k*5+4,none⟩=some (.slice ap m cp):=by rw[←a3];exact cell_later (an r _) c4
     have fr:r.drew.cell? ⟨v,k*5+4,none⟩=some (.slice ap m cp):=by rw[←a3];exact c4
     obtain⟨k0,h8,ib⟩:=lK (W:=r.drew) g1.out
     have vp:=td (((m2+1:Nat)):Int) a' c' (ai y++[(x0,xa,xc)]) F ch
     rw[V]at vp
     obtain⟨pb,b0⟩:∃pb,bk (((m2+1:Nat)):Int) (ai y++[(x0,xa,xc)])=pb:=⟨_,rfl⟩
     rw[b0]at vp
     have g5:=Lib.hid vp
     have bu:Below xb w F:=((aa o.out aR).mono (Nat.le_of_lt f.out)).grown n (by show xb≤r.heap.size;have:=o.out.size;have:=f.out;omega) (fun j e=>by have:=(I.last.lt j e).1;omega)
     have hi:=Lib.hid bu
     have cq:=Lib.hid (fun(W:World) (hp:pb=false) (C:Below F.heap.size F W)=>jo (xb:=xb) (w:=w) (w':=W) (show bK s acc (bL t)=none by rw[Z.out,a4.out,if_neg (fun e=>by rw[ag.out,b0,hp]at e;cases e.2)]) (bu.trans (C.mono (by have:=n.size;have:r.heap.size≤F.heap.size:=this;have:=o.out.size;have:=f.out;omega))) (show W.heap[xb]?=some (.cells #[lv] 24 (0,0))from by
      have S:xb<r.heap.size:=(Array.getElem?_eq_some_iff.1 bl.out).1
      exact(C.block xb (Nat.lt_of_lt_of_le S n.size)).trans ((n.block xb S (fun e=>H e.symm)).trans bl.out)))
     have cr:=Lib.hid (show∀(W:World),pb=true→Below F.heap.size F W→kB s acc (bL t) xb w (.returned (.bool true)) (W.setCell ⟨v,k*5+4,none⟩ (.slice a' (m+1) c'))from fun W hp C=>by
      obtain⟨u1,u2,u3⟩:=I.grown n cb
      have cg:=xU (pv':=v') (p':=ai y++[(x0,xa,xc)]) cf.out (u1.call C) I.len u2 (fun i h1 h2=>by obtain⟨a,c,e1,e2⟩:=u3 i h1 h2;exact⟨a,c,e1,e2.below C⟩) (cv.call C)
      rw[K,c3.out]at cg
      refine yn (show bK s acc (bL t)=_ by rw[Z.out,a4.out,if_pos ⟨(fun e=>by have h9:=ag.out;rw[e]at h9;cases h9),(by rw[ag.out,b0,hp])⟩]) ?_ (.inr ⟨A,_,_,vs,rfl,cg.1⟩) ?_
      ·exact(bu.trans (C.mono (by have:=n.size;have:r.heap.size≤F.heap.size:=this;have:=o.out.size;have:=f.out;omega))).setCell (p:=⟨v,k*5+4,none⟩) (by show xb≤v;have:=cd.out;omega) _
      rw[Below.heap_setCell _ _ _ _ (by show¬xb=v;have:=cd.out;omega)]
      have S:xb<r.heap.size:=(Array.getElem?_eq_some_iff.1 bl.out).1
      exact(C.block xb (Nat.lt_of_lt_of_le S n.size)).trans ((n.block xb S (fun e=>H e.symm)).trans bl.out))
     have dy:=Lib.hid (show∀W,Below F.heap.size F W→W.frozen? ⟨v,k*5+4,none⟩=false from fun W C=>(World.frozen?_of_block (a:=⟨v,k*5+4,none⟩) (C.block v (Nat.lt_of_lt_of_le aW n.size))).trans ((World.frozen?_of_block (a:=⟨v,k*5+4,none⟩) ac).trans f4))
     have du:=Lib.hid (show∀W,Below F.heap.size F W→W.cell? ⟨v,k*5+4,none⟩=some (.slice ap m cp)from fun W C=>(World.cell?_of_block (a:=⟨v,k*5+4,none⟩) (C.block v (Nat.lt_of_lt_of_le aW n.size))).trans ((World.cell?_of_block (a:=⟨v,k*5+4,none⟩) ac).trans fr))
     clear R cv n cb K a3 ch d6 dx ce H ac I vp b0 V bu aR c4 hm
     go_wp2_with fail
     rw[Y.out]
     try go_wp2_with fail
     go_region_law (rw[if_pos (by kernel_rfl)];refine gj (.tmp 88) (.tmp 90) _ rfl rfl rfl ba ?_)
     all_goals go_wp2_with fail
     all_goals(refine g5.out.mono ?_;rintro e w7 ⟨rfl,bA⟩)
     all_goals(have hT:=dy.out _ bA;have hO:=du.out _ bA;have cc:=Lib.hid bA;clear bA)
     all_goals cases pb
     all_goals go_wp2_with fail
     all_goals go_ret
     all_goals first|exact cq.out _ (by first|rfl|trivial) cc.out|exact cr.out _ (by first|rfl|trivial) cc.out
end Go.Proofs.YtlejmeegkpdabaaGreatDoor
