/- The proof of a statement, some of its texts joined in build order: part K7. -/
import Derived.Test.YtlejmeegkpdabaaGreatDoorMxK1
import Derived.Maps.AppendAt
import Derived.Deep.Onto
namespace Go.Proofs.YtlejmeegkpdabaaGreatDoor
open Go Go.RowKit
def bZ(S:Nat→Prop)(v:Value):Nat→Prop:=fun b=>S b∧some b≠v.ownBlock
def OwnL{α:Type}(E:Enc α)(S:Nat→Prop)(w:World)(base:Nat)(e:TypeId)(v:Value)(l:List α):Prop:=
 ∃xs:List (List Value),w.ownsRow base e E.size v l.length xs.flatten∧xs.length=l.length∧∀i (h1:i<xs.length) (h2:i<l.length),E.R (bZ S v) w xs[i] l[i]
theorem uC{xs:List (List Value)}{s:Nat}(h:∀x∈xs,x.length=s):xs.flatten.length=xs.length*s:=by
 induction xs with
 |nil=>simp
 |cons x r a=>
  rw[List.flatten_cons,List.length_append,a (fun y hy=>h y (by simp[hy])),h x (by simp),List.length_cons,Nat.succ_mul];omega
theorem im{xs:List (List Value)}{s:Nat}(h:∀x∈xs,x.length=s)(i:Nat)(hi:i<xs.length)(j:Nat)(hj:j<xs[i].length):xs.flatten[i*s+j]?=some xs[i][j]:=by
 induction xs generalizing i with
 |nil=>simp at hi
 |cons x r a=>
  have hx:=h x (by simp)
  cases i with
  |zero=>
   simp at hj
   rw[List.flatten_cons,Nat.zero_mul,Nat.zero_add,List.getElem?_append_left hj]
   simp
  |succ i=>
   rw[List.flatten_cons,List.getElem?_append_right (by rw[hx,Nat.succ_mul];omega),hx,show(i+1)*s+j-s=i*s+j by rw[Nat.succ_mul];omega]
   simp at hi
   exact a (fun y hy=>h y (by simp[hy])) i hi hj
section
variable {α:Type}{E:Enc α}{S:Nat→Prop}{w:World}{base:Nat}{e:TypeId}{v:Value}{l:List α}
theorem OwnL.nil(E:Enc α)(S:Nat→Prop)(w:World)(base:Nat)(e:TypeId):OwnL E S w base e (.slice none 0 0) []:=
 ⟨[],World.ownsRow_nil _ _ _ _,rfl,fun i h=>by simp at h⟩
theorem OwnL.made(E:Enc α)(S:Nat→Prop)(w:World)(base:Nat)(e:TypeId)(hb:base≤w.heap.size):OwnL E S (w.alloc (.cells #[] e)) base e (.slice (some ⟨w.heap.size,0,none⟩) 0 0) []:=
 ⟨[],World.ownsRow_made w #[] 0 hb (Nat.zero_le _) (by simp),rfl,fun i h=>by simp at h⟩
theorem OwnL.lt(h:OwnL E S w base e v l):∀k,v.ownBlock=some k→base≤k∧k<w.heap.size:=by
 obtain⟨b,a,_⟩:=h;exact a.lt
theorem OwnL.kept{w':World}(h:OwnL E S w base e v l)(hr:∀k,v.ownBlock=some k→w'.heap[k]?=w.heap[k]?)(hA:Agree (bZ S v) w w'):OwnL E S w' base e v l:=by
 obtain⟨r,j,p,hx⟩:=h
 refine⟨r,⟨j.1,?_⟩,p,fun i m n=>E.mono (hx i m n) (fun _ _ h=>h) hA⟩
 rcases j.2 with q|⟨g,b,c,rfl,o,f,a⟩
 ·exact .inl q
 exact .inr ⟨g,b,c,rfl,o,(hr g rfl).trans f,a⟩
theorem OwnL.call{w':World}(h:OwnL E S w base e v l)(hb:Below w.heap.size w w'):OwnL E S w' base e v l:=
 h.kept (fun k a=>hb.block k (h.lt k a).2) (.all hb)
theorem OwnL.grown{w':World}{row:Option Nat}(h:OwnL E S w base e v l)(hg:w.grownBy w' row)(h1:∀k,v.ownBlock=some k→row≠some k)(h2:∀b,S b→b<w.heap.size→row≠some b):OwnL E S w' base e v l:=
 h.kept (fun k a=>hg.block k (h.lt k a).2 (fun e=>h1 k a e.symm)) (fun b f c=>hg.block b c (fun e=>h2 b f.1 c e.symm))
theorem OwnL.baseMono{base':Nat}(h:OwnL E S w base e v l)(hb:base'≤base):OwnL E S w base' e v l:=by
 obtain⟨b,a,hx⟩:=h;exact⟨b,a.mono hb,hx⟩
theorem OwnL.weak{S':Nat→Prop}(h:OwnL E S w base e v l)(hS:∀b,b<w.heap.size→S b→S' b):OwnL E S' w base e v l:=by
 obtain⟨k,j,g,hx⟩:=h
 exact⟨k,j,g,fun i a c=>E.mono (hx i a c) (fun b f h=>⟨hS b f h.1,h.2⟩) (.refl _ _)⟩
theorem OwnL.sl(h:OwnL E S w base e v l):∃a c,v= .slice a l.length c∧Sl E (fun b=>base≤b∨S b) w a c l:=by
 obtain⟨p,q,C,hx⟩:=h
 have k:∀x∈p,x.length=E.size:=by
  intro x o
  obtain⟨i,m,rfl⟩:=List.getElem_of_mem o
  exact E.len (hx i m (by omega))
 rcases q.2 with⟨rfl,s⟩|⟨g,cap,r,rfl,y,hg,t,u,A,B⟩
 ·have:l=[]:=List.length_eq_zero_iff.1 s
  subst this
  exact⟨none,0,rfl, .empty⟩
 refine⟨_,_,rfl,t,u,fun h=>by simp at h,fun _=>⟨g,0,rfl, .inl y,(Array.getElem?_eq_some_iff.1 hg).1,fun i m=> ?_⟩⟩
 have f:i<p.length:=by omega
 refine⟨p[i],k _ (List.getElem_mem f),fun j n=> ?_,E.mono (hx i f m) (fun b _ h=> .inr h.1) (.refl _ _)⟩
 have z:j<E.size:=by rw[k _ (List.getElem_mem f)]at n;exact n
 rw[Nat.zero_add,World.ownsRow.cellAt (g:=g) (cap:=cap) q (i*E.size+j)]
 ·exact im k i f j n
 calc i*E.size+j<i*E.size+E.size:=by omega
  _=(i+1)*E.size:=by rw[Nat.succ_mul]
  _≤l.length*E.size:=Nat.mul_le_mul_right _ (by omega)
theorem OwnL.slB(h:OwnL E S w base e v l)(hS:∀b,S b→base≤b):∃a c,v= .slice a l.length c∧Sl E (fun b=>base≤b) w a c l:=by
 obtain⟨a,c,rfl,f⟩:=h.sl
 exact⟨a,c,rfl,f.weak (fun b g=>g.elim id (hS b))⟩
theorem OwnL.append_raw{P:Program}(h:OwnL E S w base e v l){t ty:TypeId}{z:Value}{bytes:Nat}(ht:P.underlying t=some (.slice e))
  (hinfo:(P.info? e).map (fun i=>(i.zero,i.size,i.bytes))=some (some z,E.size,bytes)) (hzs:z.cells.size=E.size)
  {a:Option Addr} {c:Nat} {l2:List α} (hnone:a=none→l2=[]∧c=0) (ys:List (List Value)) (hys:ys.length=l2.length) (hyl:∀i (h1:i<ys.length) (h2:i<l2.length),E.R (bZ S v) w ys[i] l2[i])
  (hya:∀j u,ys.flatten[j]?=some u→∃b off,a=some ⟨b,off,none⟩∧w.cell? ⟨b,off+j,none⟩=some u)
  (hlen:(l.length+l2.length)*bytes≤140737488355328) (hmax:l.length+l2.length≤aB) (hbase:base≤w.heap.size):
  ∃v' w',(Builtin.append_ #[t,t] ty #[v, .slice a l2.length c]).run P w= .ok v' w'∧OwnL E S w' base e v' (l++l2)∧w.grownBy w' v.ownBlock∧(v'.ownBlock=v.ownBlock∨v'.ownBlock=some w.heap.size)∧(l++l2=[]→v= .slice none 0 0→v'= .slice none 0 0):=by
 obtain⟨Q,m,L,M,N⟩:=info_parts hinfo
 obtain⟨F,H,O,hx⟩:=h
 have g:∀y∈ys,y.length=E.size:=by
  intro x K
  obtain⟨i,m,rfl⟩:=List.getElem_of_mem K
  exact E.len (hyl i m (by omega))
 have k:∀u∈ys.flatten,u.oneCell'=true:=by
  intro u I
  obtain⟨y,hy,J⟩:=List.mem_flatten.1 I
  obtain⟨i,m,rfl⟩:=List.getElem_of_mem hy
  exact E.one (hyl i m (by omega)) u J
 have key:∃v' w',(Builtin.append_ #[t,t] ty #[v, .slice a l2.length c]).run P w= .ok v' w'∧w'.ownsRow base e E.size v' (l.length+l2.length) (F.flatten++ys.flatten)∧w.grownBy w' v.ownBlock∧
   (v'= .slice none 0 0↔v= .slice none 0 0∧l2.length=0)∧(v'.ownBlock=v.ownBlock∨v'.ownBlock=some w.heap.size):=by
  cases a with
  |none=>
   obtain⟨rfl,rfl⟩:=hnone rfl
   have D:ys=[]:=List.length_eq_zero_iff.1 (by simpa using hys)
   subst D
   have hr:=run_append_owned_none (P:=P) w base t ty e Q E.size ht m v l.length F.flatten H
   exact⟨v,w,by simpa using hr,by simpa using H,⟨rfl,rfl,rfl,Nat.le_refl _,fun _ _ _=>rfl⟩,by simp, .inl rfl⟩
  |some T=>
   have:=run_append_own_at (P:=P) w base t ty e Q z E.size bytes ht m L M N hzs E.pos v l.length F.flatten H T l2.length c ys.flatten (by rw[uC g,hys])
    (fun j u I=>by
     obtain⟨b,off,ha,U⟩:=hya j u I
     cases ha
     have o:(⟨b,off,none⟩:Addr).add j=⟨b,off+j,none⟩:=by unfold Addr.add;split<;>simp_all
     rw[o];exact U) k hmax hlen hbase
   exact this
 obtain⟨v',w',C,B,f,s,p⟩:=key
 refine⟨v',w',C,⟨F++ys,?_,by simp[O,hys],?_⟩,f,p,fun A V=>s.2 ⟨V,by simp at A;simp[A.2]⟩⟩
 ·rw[List.length_append,List.flatten_append];exact B
 intro i h1 h2
 have hA:Agree (bZ S v) w w':=fun b G r=>f.block b r G.2
 have n:∀b,b<w.heap.size→bZ S v b→bZ S v' b:=fun b r G=>⟨G.1,by
  rcases p with h|h
  ·rw[h];exact G.2
  rw[h];intro e;simp at e;omega⟩
 by_cases q:i<F.length
 ·rw[List.getElem_append_left q,List.getElem_append_left (by omega)]
  exact E.mono (hx i q (by omega)) n hA
 rw[List.getElem_append_right (by omega),List.getElem_append_right (by omega)]
 simp only[O]
 simp at h2
 exact E.mono (hyl (i-l.length) (by omega) (by omega)) n hA
theorem OwnL.append_run{P:Program}(h:OwnL E S w base e v l){t ty:TypeId}{z:Value}{bytes:Nat}(ht:P.underlying t=some (.slice e))
  (hinfo:(P.info? e).map (fun i=>(i.zero,i.size,i.bytes))=some (some z,E.size,bytes)) (hzs:z.cells.size=E.size)
  {S2:Nat→Prop} {a:Option Addr} {c:Nat} {l2:List α} (h2:Sl E S2 w a c l2) (hel:∀i (hi:i<l2.length) vs,E.R S2 w vs l2[i]→E.R (bZ S v) w vs l2[i])
  (hlen:(l.length+l2.length)*bytes≤140737488355328) (hmax:l.length+l2.length≤aB) (hbase:base≤w.heap.size):
  ∃v' w',(Builtin.append_ #[t,t] ty #[v, .slice a l2.length c]).run P w= .ok v' w'∧OwnL E S w' base e v' (l++l2)∧w.grownBy w' v.ownBlock∧(v'.ownBlock=v.ownBlock∨v'.ownBlock=some w.heap.size)∧(l++l2=[]→v= .slice none 0 0→v'= .slice none 0 0):=by
 obtain⟨o,C,B,A⟩:∃o:List (List Value),o.length=l2.length∧(∀i (s:i<o.length) (h2:i<l2.length),E.R S2 w o[i] l2[i])∧∀j u,o.flatten[j]?=some u→∃b g,a=some ⟨b,g,none⟩∧w.cell? ⟨b,g+j,none⟩=some u:=by
  by_cases r:l2=[]
  ·subst r;exact⟨[],rfl,fun i h=>by simp at h,fun j u h=>by simp at h⟩
  obtain⟨b,g,ha,_,_,G⟩:=h2.dat r
  have f:∀i:Fin l2.length,∃vs,vs.length=E.size∧(∀j (H:j<vs.length),w.cell? ⟨b,g+i.1*E.size+j,none⟩=some vs[j])∧E.R S2 w vs l2[i.1]:=fun i=>G i.1 i.2
  refine⟨List.ofFn (fun i=>Classical.choose (f i)),by simp,fun i s h2=> ?_,fun j u F=>⟨b,g,ha,?_⟩⟩
  ·rw[List.getElem_ofFn];exact(Classical.choose_spec (f ⟨i,h2⟩)).2.2
  have q:∀x∈List.ofFn (fun i=>Classical.choose (f i)),x.length=E.size:=by
   intro x y
   obtain⟨i,hi,rfl⟩:=List.getElem_of_mem y
   rw[List.getElem_ofFn];exact(Classical.choose_spec (f _)).1
  have p:j<(List.ofFn (fun i=>Classical.choose (f i))).flatten.length:=(List.getElem?_eq_some_iff.1 F).1
  rw[uC q,List.length_ofFn]at p
  have k:j / E.size<l2.length:=Nat.div_lt_of_lt_mul (by rw[Nat.mul_comm];exact p)
  have m:j % E.size<E.size:=Nat.mod_lt _ E.pos
  have n:=Classical.choose_spec (f ⟨j / E.size,k⟩)
  have hg:=im q (j / E.size) (by simpa using k) (j % E.size) (by rw[List.getElem_ofFn,n.1];exact m)
  have D:j / E.size*E.size+j % E.size=j:=by rw[Nat.mul_comm];exact Nat.div_add_mod j E.size
  rw[D,F]at hg
  have:=n.2.1 (j % E.size) (by rw[n.1];exact m)
  rw[Nat.add_assoc,D]at this
  rw[this]
  simp only[List.getElem_ofFn]at hg
  exact hg.symm
 exact h.append_raw ht hinfo hzs h2.nil o C (fun i s h2=>hel i h2 _ (B i s h2)) A hlen hmax hbase
theorem tO{w:World}(vs:List Value)(e:TypeId)(j:Nat)(hj:j<vs.length):(w.alloc (.cells vs.toArray e)).cell? ⟨w.heap.size,j,none⟩=some vs[j]:=by
 rw[World.cell?_alloc_at _ _ _ _ rfl];simp[hj]
theorem OwnL.push{P:Program}(h:OwnL E S w base e v l){t ty:TypeId}{z:Value}{bytes:Nat}(ht:P.underlying t=some (.slice e))
  (hinfo:(P.info? e).map (fun i=>(i.zero,i.size,i.bytes))=some (some z,E.size,bytes)) (hzs:z.cells.size=E.size)
  {vs:List Value} {x:α} (hR:E.R (bZ S v) w vs x) (hlen:(l.length+1)*bytes≤140737488355328) (hmax:l.length+1≤aB) (hbase:base≤w.heap.size):
  ∃v' w',(Builtin.append_ #[t,t] ty #[v, .slice (some ⟨w.heap.size,0,none⟩) 1 1]).run P (w.alloc (.cells vs.toArray e))= .ok v' w'∧OwnL E S w' base e v' (l++[x])∧w.grownBy w' v.ownBlock∧(v'.ownBlock=v.ownBlock∨∃k,v'.ownBlock=some k∧w.heap.size≤k):=by
 have g:=h.call (an w (.cells vs.toArray e))
 obtain⟨v',w',b,q,hg,f,_⟩:=g.append_raw (P:=P) (t:=t) (ty:=ty) ht hinfo hzs (a:=some ⟨w.heap.size,0,none⟩) (c:=1) (l2:=[x]) (fun h=>by simp at h) [vs] rfl
  (fun i g m=>by simp at m;subst m;exact E.mono hR (fun _ _ h=>h) (.all (an _ _)))
  (fun j u n=>⟨_,0,rfl,by
   simp only[List.flatten_cons,List.flatten_nil,List.append_nil]at n
   obtain⟨o,rfl⟩:=List.getElem?_eq_some_iff.1 n
   rw[Nat.zero_add];exact tO vs e j o⟩) hlen hmax (by simp;omega)
 refine⟨v',w',b,q,⟨hg.os,hg.tape,hg.output,by have:=hg.size;simp at this;omega,fun k p hr=> ?_⟩,?_⟩
 ·rw[hg.block k (by simp;omega) hr,Below.heap_alloc _ _ _ p]
 rcases f with h|h
 ·exact .inl h
 exact .inr ⟨_,h,by simp⟩
theorem OwnL.form(h:OwnL E S w base e v l)(hne:l≠ []):∃g cap,v= .slice (some ⟨g,0,none⟩) l.length cap∧base≤g∧g<w.heap.size:=by
 obtain⟨i,f,_⟩:=h
 rcases f.2 with⟨rfl,b⟩|⟨g,cap,a,rfl,c,hg,_⟩
 ·exact(hne (List.length_eq_zero_iff.1 b)).elim
 exact⟨g,cap,rfl,c,(Array.getElem?_eq_some_iff.1 hg).1⟩
end
section
variable {S:Nat→Prop}{w:World}{base:Nat}{e:TypeId}{v:Value}{l:List Int}
theorem Ee{xs:List (List Value)}{T:Nat→Prop}(hl:xs.length=l.length)(hx:∀i (h1:i<xs.length) (h2:i<l.length),intE.R T w xs[i] l[i]):xs=l.map (fun x=>[.int .i64 x])∧∀x∈l,aE x:=by
 constructor
 ·apply List.ext_getElem (by simpa using hl)
  intro i h1 h2
  rw[List.getElem_map]
  exact(hx i h1 (by omega)).1
 intro x a
 obtain⟨i,b,rfl⟩:=List.getElem_of_mem a
 exact(hx i (by omega) b).2
theorem qi(l:List Int):(l.map (fun x=>[Value.int .i64 x])).flatten=l.map (Value.int .i64):=by
 induction l with
 |nil=>rfl
 |cons x r a=>simp[a]
theorem OwnL.row(h:OwnL intE S w base e v l):w.ownsRow base e 1 v l.length (l.map (.int .i64))∧∀x∈l,aE x:=by
 obtain⟨c,a,b,hx⟩:=h
 obtain⟨rfl,hr⟩:=Ee b hx
 rw[qi]at a
 exact⟨a,hr⟩
theorem OwnL.of_row(h:w.ownsRow base e 1 v l.length (l.map (.int .i64)))(hr:∀x∈l,aE x):OwnL intE S w base e v l:=
 ⟨l.map (fun x=>[.int .i64 x]),by rw[qi];exact h,by simp,fun i b a=>⟨by simp,hr _ (List.getElem_mem a)⟩⟩
theorem OwnL.cellInt{g cap n:Nat}(h:OwnL intE S w base e (.slice (some ⟨g,0,none⟩) n cap) l)(hn:n=l.length)(i:Nat)(hi:i<l.length):w.cell? ⟨g,i,none⟩=some (.int .i64 l[i])∧w.frozen? ⟨g,i,none⟩=false:=by
 subst hn
 obtain⟨a,_⟩:=h.row
 exact⟨by rw[a.cellAt i (by omega)];simp[hi],a.frozenAt i⟩
theorem OwnL.setInt{g cap n:Nat}(h:OwnL intE S w base e (.slice (some ⟨g,0,none⟩) n cap) l)(hn:n=l.length)(i:Nat)(x:Int)(hx:aE x):
  OwnL intE S (w.setCell ⟨g,i,none⟩ (.int .i64 x)) base e (.slice (some ⟨g,0,none⟩) n cap) (l.set i x)∧w.grownBy (w.setCell ⟨g,i,none⟩ (.int .i64 x)) (some g):=by
 subst hn
 obtain⟨c,hr⟩:=h.row
 obtain⟨a,b⟩:=c.stored i (.int .i64 x)
 refine⟨.of_row (by rw[List.length_set,List.map_set];exact a) (fun y hy=> ?_),b⟩
 rcases List.mem_or_eq_of_mem_set hy with h|h
 ·exact hr y h
 rw[h];exact hx
theorem OwnL.lit(w:World)(l:List Int)(e:TypeId)(hr:∀x∈l,aE x)(hl:l.length≤maxLen):OwnL intE S (w.alloc (.cells (l.map (Value.int .i64)).toArray e)) w.heap.size e (.slice (some ⟨w.heap.size,0,none⟩) l.length l.length) l:=
 .of_row (by have:=World.ownsRow_lit (e:=e) (size:=1) w (l.map (Value.int .i64)).toArray l.length (Nat.le_refl _) hl (by simp);simpa using this) hr
end
theorem bo{P:Program}{w:World}{ops:Array Oper}{rest:List Oper}{o:Oper}{a:Act}{Q:Exit→Act→World→Prop}(hgd:o.guard=none)(s x:Operand)(t:TypeId)
  (ho:o.op= .call {callee:= .builtin .append,args:= #[s,x],argTypes:= #[t,t]}) {vs vx:Value} (hs:a.eval s=vs) (hx:a.eval x=vx) {v':Value} {w':World}
  (hr:(Builtin.append_ #[t,t] o.type #[vs,vx]).run P w= .ok v' w') (h:wpList P ops Q rest (a.put o.dst v') w'):wpList P ops Q (o::rest) a w:=by
 refine wpList_plain hgd fun K b=> ?_
 unfold Oper.wp execOp
 simp only[ho,resolve,invoke,builtin,Sem.run_bind,Sem.run_pure,Result.andThen_ok,List.map_toArray,List.map_cons,List.map_nil,hs,hx,hr]
 exact b _ _ h
theorem Sl.new{α:Type}{E:Enc α}{S:Nat→Prop}(w:World)(vss:List (List Value))(l:List α)(e:TypeId)(hlen:vss.length=l.length)(hmax:l.length≤aB)(hR:∀i (h1:i<vss.length) (h2:i<l.length),E.R S w vss[i] l[i]):
  Sl E (fun b=>S b∨b=w.heap.size) (w.alloc (.cells vss.flatten.toArray e)) (some ⟨w.heap.size,0,none⟩) l.length l:=by
 have c:∀x∈vss,x.length=E.size:=by
  intro x k
  obtain⟨i,f,rfl⟩:=List.getElem_of_mem k
  exact E.len (hR i f (by omega))
 refine⟨Nat.le_refl _,hmax,fun h=>by simp at h,fun _=>⟨w.heap.size,0,rfl, .inr rfl,by simp,fun i f=> ?_⟩⟩
 have a:i<vss.length:=by omega
 refine⟨vss[i],c _ (List.getElem_mem a),fun j m=> ?_,E.mono (hR i a f) (fun _ _ h=> .inl h) (.all (an _ _))⟩
 have hg:=im c i a j m
 obtain⟨g,hg⟩:=List.getElem?_eq_some_iff.1 hg
 rw[Nat.zero_add]
 rw[tO vss.flatten e _ g,hg]
theorem Ints.new(w:World)(l:List Int)(e:TypeId)(hmax:l.length≤aB)(hr:∀x∈l,aE x):
  Ints (fun b=>b=w.heap.size) (w.alloc (.cells (l.map (Value.int .i64)).toArray e)) (some ⟨w.heap.size,0,none⟩) l.length l:=by
 have:=Sl.new (E:=intE) (S:=fun _=>False) w (l.map (fun x=>[.int .i64 x])) l e (by simp) hmax (fun i c a=>⟨by simp,hr _ (List.getElem_mem a)⟩)
 rw[qi]at this
 exact this.weak (fun b h=>h.resolve_left (fun h=>h))
end Go.Proofs.YtlejmeegkpdabaaGreatDoor
