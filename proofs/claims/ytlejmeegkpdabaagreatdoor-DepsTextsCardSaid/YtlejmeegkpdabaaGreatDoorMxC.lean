/- The proof of a statement, some of its texts joined in build order: part C. -/
import Derived.Sort.OwnSorted
import Derived.Test.YtlejmeegkpdabaaGreatDoorMxE2
set_option maxHeartbeats 4000000
namespace Go.Proofs.YtlejmeegkpdabaaGreatDoor
open Go Go.RowKit Go.Maps Go.Sort Go.Shelf
def BoxB{α:Type}(E:Enc α)(B0:Nat)(T:TypeId)(base:Nat)(e:TypeId)(l:List α)(W:World):Prop:=∃v,Boxed W B0 T v∧OwnL E (fun b=>base≤b) W base e v l
section
variable {α:Type}{E:Enc α}{B0 sb:Nat}{T e:TypeId}{base:Nat}{l:List α}{W:World}
theorem BoxB.below{W':World}(h:BoxB E B0 T base e l W)(hb:Below W.heap.size W W'):BoxB E B0 T base e l W':=by
 obtain⟨v,a,b⟩:=h
 exact⟨v,(hb.block B0 a.lt).trans a,b.call hb⟩
end
structure CiOn (l:List Ent) (first now:ByteArray) (out:List ByteArray):Prop where
 nd:out.Nodup
 sub:∀x∈out,(aG l x).isSome=true
 rch:Rch (bB l) (fun x=>io first out x=true) now first
 acc:∀C,CircS l first out now C→CircS l first [first] first C
 fo:first∈out
theorem CiOn.start{l:List Ent}{x:ByteArray}(h:gX l x=true)(hx:(aG l x).isSome=true):CiOn l x x [x]:=
 ⟨by simp,fun y hy=>by rw[List.mem_singleton]at hy;rw[hy];exact hx,EM h,fun _ h=>h,by simp⟩
theorem BK{l:List Ent}{first:ByteArray}{out:List ByteArray}{u:ByteArray}(h:il l first out u=true):(aG l u).isSome=true:=by
 unfold il at h
 rw[Bool.and_eq_true,Bool.and_eq_true,rchB_iff]at h
 have c:∀m v,v∈bB l m→(aG l m).isSome=true:=fun m v a=>by
  unfold bB at a
  cases b:aG l m with
  |none=>rw[b]at a;cases a
  |some k=>rfl
 obtain⟨v,a,-⟩:=h.2.2.head
 exact c u v a
theorem CiOn.step{l:List Ent}{first now nx:ByteArray}{out:List ByteArray}(h:CiOn l first now out)(hno:first∉bB l now)(hu:nx∈bB l now)(hc:il l first out nx=true)(hl:∀u∈bB l now,il l first out u=true→u=nx∨eD nx u):CiOn l first nx (out++[nx]):=by
 have c:=hc
 unfold il io at c
 rw[Bool.and_eq_true,Bool.and_eq_true,Bool.or_eq_true]at c
 have f:nx∉out:=fun j=>by
  rcases c.2.1 with e|e
  ·simp only[decide_eq_true_eq]at e;rw[e]at c;simp at c
  rw[Bool.and_eq_true,memB_iff.2 j]at e;simp at e
 refine⟨?_,fun x hx=> ?_,BL hc,fun C i=>h.acc C (.step hno hu hc hl i),List.mem_append_left _ h.fo⟩
 ·rw[List.nodup_append]
  exact⟨h.nd,by simp,fun a ha b g e=>f (by rw[List.mem_singleton]at g;rw[←g,←e];exact ha)⟩
 rcases List.mem_append.1 hx with e|e
 ·exact h.sub x e
 rw[List.mem_singleton]at e;rw[e];exact BK hc
theorem CiOn.size{l:List Ent}{first now:ByteArray}{out:List ByteArray}(h:CiOn l first now out):out.length≤l.length:=by
 have:=jO (m:=l.map af) h.nd (fun x hx=>by
  have:=h.sub x hx
  cases a:aG l x with
  |none=>rw[a]at this;cases this
  |some k=>
   obtain⟨b,e⟩:=gx a
   rw[←e];exact List.mem_map.2 ⟨l[k],List.getElem_mem b,rfl⟩)
 rwa[List.length_map]at this
attribute [local go_sem] Oper.semAt_some
def KpV(K:Nat)(W W':World):Prop:=∀b,b<K→W'.heap[b]?=W.heap[b]?
theorem KpV.trans{K:Nat}{A B C:World}(h:KpV K A B)(k:KpV K B C):KpV K A C:=fun b a=>(k b a).trans (h b a)
theorem KpV.cell{K:Nat}{A B:World}(h:KpV K A B){b o:Nat}(hb:b<K):B.cell? ⟨b,o,none⟩=A.cell? ⟨b,o,none⟩:=by
 have:=h b hb
 unfold World.cell?
 simp only[this]
theorem KpV.of_below{K:Nat}{A B:World}(h:Below K A B):KpV K A B:=fun b a=>h.block b a
noncomputable def gT(s:Sg)(l:List Ent)(k:Nat)(u:ByteArray):Bool:=eL l u||(List.range k).any (fun i=> !bY s l i&&decide (af (l.getD i default)=u))
theorem CS(s:Sg)(l:List Ent):gT s l 0=eL l:=by funext u;unfold gT;simp
theorem CR{s:Sg}{l:List Ent}{k:Nat}(h:bY s l k=true):gT s l (k+1)=gT s l k:=by
 funext u
 unfold gT
 rw[List.range_succ,List.any_append]
 simp[h]
theorem CQ{s:Sg}{l:List Ent}{k:Nat}(hk:k<l.length)(h:bY s l k=false):(fun z=>if z=af l[k]then true else gT s l k z)=gT s l (k+1):=by
 funext u
 unfold gT
 rw[List.range_succ,List.any_append]
 by_cases e:u=af l[k]
 ·subst e;simp[h,List.getElem?_eq_getElem hk]
 have:decide (af l[k]=u)=false:=decide_eq_false (fun h=>e h.symm)
 simp[h,e,List.getElem?_eq_getElem hk,this]
noncomputable def jB(s:Sg)(l:List Ent)(u:ByteArray):Bool:=eL l u||fh l (fun i=> !bY s l i) u
theorem CP(s:Sg)(l:List Ent):gT s l l.length=jB s l:=rfl
def nB(s:Sg)(l:List Ent)(w:World)(ob M0:Nat)(i:Value)(wr:World):Prop:=∃k M m:Nat,i= .int .i64 k∧k≤l.length∧M≤M0+k∧m≤M∧SSet wr ob M m (gT s l k)∧Below w.heap.size w wr
theorem CT{B xb:Nat}{w:World}{s:Sg}{l:List Ent}(h:DLib B w xb s l):Calls Tryz.prog 39 #[.pointer (some ⟨xb,0,none⟩)] w fun e w'=>∃ob M m,e= .returned (.map (some ob))∧w.heap.size≤ob∧M≤1000∧m≤M∧SSet w' ob M m (jB s l)∧Below w.heap.size w w':=by
 have vm:=xj h
 have ag:=(iB h.2.2.1).2.1
 have ab:=Lib.hid vm
 have T:=Lib.hid h
 clear vm h
 go_enter Tryz.func39,Tryz.ntmps39
 go_wp2_with fail
 refine ab.out.mono ?_
 rintro e w1 ⟨ob,D,m0,rfl,Y,a9,N,G,v⟩
 obtain⟨sa,sc,la,lc,bm,R⟩:=(T.out.call v).op
 have ml:=R.hL.le
 have q1:=R.q1
 have V:=Lib.hid R
 have Z:=Lib.hid (show nB s l w ob D (.int .i64 0) w1 from⟨0,D,m0,rfl,Nat.zero_le _,by omega,N,by rw[CS];exact G,v⟩)
 have t:=Lib.hid v
 clear R G v N
 go_wp2_with fail
 go_loopw [13] (fun i wr=>nB s l w ob D i wr) (fun i _=>l.length-(intOf i).toNat)
 case atStart=>exact Z.out
 case round=>
  obtain⟨k,M,m,rfl,hk,U,L,hS,q⟩:=hrel
  by_cases o:k<l.length
  ·have hD:=T.out.call q
   have a4:=T.out.1
   obtain⟨b,c,a1,c1,a2,c2,a3,c3,rfl,bf,p0,p1,p2,p3,p4,z1,z2,hI,hU,hP⟩:=V.out.hL.ent k o
   have E:Below w.heap.size w wr:=q
   have a:b<w.heap.size:=by omega
   have s0:=(q.cell (p:=⟨b,c+k*5,none⟩) a).trans ((t.out.cell (p:=⟨b,c+k*5,none⟩) a).symm.trans p0)
   have s1:=(q.cell (p:=⟨b,c+k*5+1,none⟩) a).trans ((t.out.cell (p:=⟨b,c+k*5+1,none⟩) a).symm.trans p1)
   have s2:=(q.cell (p:=⟨b,c+k*5+2,none⟩) a).trans ((t.out.cell (p:=⟨b,c+k*5+2,none⟩) a).symm.trans p2)
   have s3:=(q.cell (p:=⟨b,c+k*5+3,none⟩) a).trans ((t.out.cell (p:=⟨b,c+k*5+3,none⟩) a).symm.trans p3)
   have s4:=(q.cell (p:=⟨b,c+k*5+4,none⟩) a).trans ((t.out.cell (p:=⟨b,c+k*5+4,none⟩) a).symm.trans p4)
   obtain⟨W,I⟩:∃W,wr.alloc (.cells #[.string (af l[k]), .string (aC l[k]), .slice a1 (az l[k]).length c1, .slice a2 (ae l[k]).length c2, .slice a3 (ai l[k]).length c3] 46)=W:=⟨_,rfl⟩
   have u:Below wr.heap.size wr W:=by rw[←I];exact an wr _
   have q0:W.cell? ⟨wr.heap.size,0,none⟩=some (.string (af l[k])):=by rw[←I];clear I;go_simp
   have vh:=vX (hD.call u) k o
   have y:=CQ (s:=s) o
   have O:=CR (s:=s) (l:=l) (k:=k)
   have F:=aa q u
   have H:=hS.below u hS.lt
   have x:=Lib.hid vh
   have z:=Lib.hid y
   have P:=Lib.hid O
   have r:=Lib.hid F
   have g:=Lib.hid H
   have J:=Lib.hid I
   clear vh y O F H hS q E hD hI hU hP p0 p1 p2 p3 p4 u I
   generalize af l[k]=nm at*
   generalize aC l[k]=bn at*
   generalize (az l[k]).length=n1 at*
   generalize (ae l[k]).length=n2 at*
   generalize (ai l[k]).length=n3 at*
   cases hx:bY s l k with
   |true=>
    rw[hx]at x
    have f:=Lib.hid (fun w2 (n:Below W.heap.size W w2)=>show nB s l w ob D (.int .i64 ((k:Int)+1)) w2 from⟨k+1,M,m,by simp,o,by omega,L,by rw[P.out hx];exact g.out.below n g.out.lt,aa r.out n⟩)
    clear hx U L
    go_wp2_with fail
    rw[J.out]
    refine x.out.mono ?_
    rintro e w2 ⟨rfl,n⟩
    have hf:=Lib.hid (f.out w2 n)
    clear n
    go_wp2_with fail
    go_roundw
    case rel=>exact hf.out
    case measure=>simp[intOf];omega
   |false=>
    rw[hx]at x
    have f:∀w2,Below W.heap.size W w2→∃Q,(Instr.mapUpdate 82 (.map (some ob)) (.string nm) (.bool true)).run Tryz.prog w2= .ok () Q∧nB s l w ob D (.int .i64 ((k:Int)+1)) Q:=fun w2 n=>by
     obtain⟨Q,h1,h2,h3⟩:=(g.out.below n g.out.lt).store (tm:=82) Tryz.underlying82 Tryz.underlying9 Tryz.underlying4 (by unfold maxLen;omega) nm (fA z1)
     rw[z.out hx]at h2
     refine⟨Q,h1,k+1,M+1,_,by simp,o,by omega,?_,h2,(aa r.out n).grown h3 (aa r.out n).size (fun j e=>by injection e with e;omega)⟩
     split<;>omega
    have A:=Lib.hid f
    clear hx U L f
    go_wp2_with fail
    rw[J.out]
    refine x.out.mono ?_
    rintro e w2 ⟨rfl,n⟩
    obtain⟨Q,bq,hf⟩:=A.out w2 n
    have r0:=cell_later n q0
    have X:=Lib.hid hf
    clear n hf q0
    go_wp2_with fail
    go_roundw
    case rel=>exact X.out
    case measure=>simp[intOf];omega
  have bp:((k:Int)<(l.length:Int))=False:=eq_false (by omega)
  have K:k=l.length:=by omega
  rw[K,CP]at hS
  have f:=Lib.hid (show∃C S m',(Ending.returned (.map (some ob)):Ending)= .returned (.map (some C))∧w.heap.size≤C∧S≤1000∧m'≤S∧SSet wr C S m' (jB s l)∧Below w.heap.size w wr from⟨ob,M,m,rfl,Y,by omega,L,hS,q⟩)
  clear hS q o hk K U L
  go_wp2_with fail
  go_ret
  exact f.out
theorem BH(x y:ByteArray):Op.bytesLess x.toList y.toList=gD x y:=by
 unfold gD
 rw[ByteArray.toList_eq,ByteArray.toList_eq,bytesLess_eq]
theorem BY{B b:Nat}{w:World}{first:ByteArray}(hb:b<B)(hc:w.cell? ⟨b,0,none⟩=some (.string first)):mH 123 #[.pointer (some ⟨b,0,none⟩)] (lx first) B w:=by
 refine⟨enters_of Tryz.func123 (by kernel_rfl) rfl,fun x hx W c=> ?_⟩
 have q:=(c.cell (p:=⟨b,0,none⟩) hb).trans hc
 have hg:lx first x= !Op.bytesLess x.toList first.toList:=by rw[BH];rfl
 have a:=Lib.hid hg
 clear hc c hg
 go_enter Tryz.func123,Tryz.ntmps123
 go_wp2_with fail
 go_ret
 exact⟨aF a.out.symm, .refl _ _⟩
theorem Ey{B xb:Nat}{w:World}{s:Sg}{l:List Ent}{sa:Option Addr}{sc:Nat}{la:Option Addr}{lc bm:Nat}(h:DOp B w xb s l sa sc la lc bm):
  Calls Tryz.prog 83 #[.func (.func 168) #[] #[.pointer (some ⟨w.heap.size,0,none⟩)]] (w.alloc (.cells #[.map (some bm)] 93)) (SortedOut w (fun x=>(aG l x).isSome)):=by
 obtain⟨n,c,D,b,f,hs,hf⟩:=h.hM
 have a:=zg b (by rw[hs];omega) (Ex b) (enters_of Tryz.func168 (by kernel_rfl) rfl)
 have e:(fun x:ByteArray=>has D (.string (bs x)))=fun x=>(aG l x).isSome:=funext fun x=>by
  have:=(hf x).1
  unfold eH at this
  rw[Option.isSome_map]at this
  exact this
 rw[e]at a
 exact a
theorem Ep{K:Nat}{w w1 w2:World}{p1 p2:Addr}{v1 v2:Value}(h:Below w.heap.size w w1∧w1.cell? p1=some v1∧w1.cell? p2=some v2)(hb:Below K w1 w2)(hK:K=w1.heap.size):
  Below w.heap.size w w2∧w2.cell? p1=some v1∧w2.cell? p2=some v2:=by
 subst hK
 exact⟨aa h.1 hb,cell_later hb h.2.1,cell_later hb h.2.2⟩
def xw(l:List Ent):Prop:=∀x,(aG l x).isSome=true→gX l x=false
def tR(w1:World)(L:List ByteArray)(i:Value)(wr:World):Prop:=∃k:Nat,i= .int .i64 k∧k≤L.length∧Below w1.heap.size w1 wr
theorem B5{B xb:Nat}{w:World}{s:Sg}{l:List Ent}(h:DLib B w xb s l)(hno:xw l):Calls Tryz.prog 82 #[.pointer (some ⟨xb,0,none⟩)] w fun e w'=>e= .returned (.slice none 0 0)∧Below w.heap.size w w':=by
 obtain⟨W,H⟩:∃W,w.alloc (.cells #[.pointer (some ⟨xb,0,none⟩)] 79)=W:=⟨_,rfl⟩
 have t:Below w.heap.size w W:=by rw[←H];exact an w _
 have q0:W.cell? ⟨w.heap.size,0,none⟩=some (.pointer (some ⟨xb,0,none⟩)):=by rw[←H];clear H;go_simp
 have u:=h.call t
 obtain⟨sa,sc,la,lc,bm,Q⟩:=u.op
 have q2:=Q.q2
 have c1:=Ew (some bm) W
 have c2:=Ey Q
 have M:=Lib.hid c1
 have N:=Lib.hid c2
 have O:=Lib.hid u
 have J:=Lib.hid hno
 have o:=Lib.hid t
 clear c1 c2 Q u h hno
 go_enter Tryz.func82,Tryz.ntmps82
 go_wp2_with fail
 try rw[H]
 refine M.out.mono ?_
 rintro e w1 ⟨rfl,rfl⟩
 go_wp2_with fail
 refine N.out.mono ?_
 rintro e w2 ⟨v,L,rfl,hL,-,q,y⟩
 obtain⟨aL,cL,rfl,x⟩:=OwnS.strs hL
 have mL:=x.le
 have P:=Lib.hid x
 have X:=Lib.hid q
 have c:=Lib.hid y
 have p0:=cell_later y q0
 clear hL q y x q0 q2 t
 clear H
 go_wp2_with fail
 go_loopw [18] (fun i wr=>tR w2 L i wr) (fun i _=>L.length-(intOf i).toNat)
 case atStart=>exact⟨0,rfl,Nat.zero_le _, .refl _ _⟩
 case round=>
  obtain⟨k,rfl,hk,A⟩:=hrel
  by_cases n:k<L.length
  ·obtain⟨bL,oL,rfl,-,qL,Z⟩:=(P.out.below A).str k n
   have z:=J.out L[k] ((X.out _).1 (List.getElem_mem n))
   obtain⟨first,p⟩:∃first,L[k]=first:=⟨_,rfl⟩
   rw[p]at qL Z z
   obtain⟨a,f⟩:∃a,wr.alloc (.cells #[.string first] 9)=a:=⟨_,rfl⟩
   have r:Below wr.heap.size wr a:=by rw[←f];exact an wr _
   have r4:a.cell? ⟨wr.heap.size,0,none⟩=some (.string first):=by rw[←f];clear f;go_simp
   have r1:=cell_later r (cell_later A p0)
   have b:=aa A r
   have Y:wr.heap.size<a.heap.size:=by rw[←f];simp
   have G:=O.out.call (c.out.trans (b.mono c.out.size))
   have j:Below a.heap.size a a.drew:=Below.drew (.refl a.heap.size _)
   have vr:∀D,Below a.heap.size a D→Calls Tryz.prog 87 #[.pointer (some ⟨xb,0,none⟩), .string first, .func (.func 123) #[] #[.pointer (some ⟨wr.heap.size,0,none⟩)]] D fun e w'=>∃K,e= .returned (.map (some K))∧(∀C,Below w'.heap.size w' C→(Instr.lookup 82 (.map (some K)) (.string first) false).run Tryz.prog C= .ok (.bool false) C)∧Below D.heap.size D w':=fun D U=>by
    refine(yi (G.call U) (BY (by have:=U.size;omega) (cell_later U r4)) first Z).mono ?_
    rintro e w' ⟨K,m,rfl,h1,h2,h3,h4⟩
    refine⟨K,rfl,fun C S=> ?_,h4⟩
    have:=(h3.below S h3.lt).look (tm:=82) Tryz.underlying82 Tryz.underlying9 Tryz.underlying4 (kO C) first (fA Z)
    rw[show gJ l (lx first) first first=false from z]at this
    exact this
   have V:Below a.heap.size a a.drew∧a.drew.cell? ⟨w.heap.size,0,none⟩=some (.pointer (some ⟨xb,0,none⟩))∧a.drew.cell? ⟨wr.heap.size,0,none⟩=some (.string first):=⟨j,cell_later j r1,cell_later j r4⟩
   have ac:=Lib.hid vr
   have F:=Lib.hid b
   have R:=Lib.hid f
   clear vr b G j A r z p Y r1 r4 f
   go_wp2_with fail
   rw[R.out]
   go_region_held3 (fun w'=>Below a.heap.size a w'∧w'.cell? ⟨w.heap.size,0,none⟩=some (.pointer (some ⟨xb,0,none⟩))∧w'.cell? ⟨wr.heap.size,0,none⟩=some (.string first))
    ((first|exact V|exact Ep ‹_› T rfl))
    ((go_at_call 87;(with_reducible refine(ac.out _ ?_).mono ?_);exact(And.left ‹_›);rintro e w4 ⟨K,rfl,I,T⟩;have aP:=I w4 (.refl _ _)))
   have E:=And.left (‹Below a.heap.size a w4∧_›)
   have g:=Lib.hid (show tR w2 L (.int .i64 ((k:Int)+1)) w4 from⟨k+1,by simp,n,aa F.out E⟩)
   clear E
   go_wp2_with fail
   go_roundw
   case rel=>exact g.out
   case measure=>simp[intOf];omega
  have aO:((k:Int)<(L.length:Int))=False:=eq_false (by omega)
  have g:=Lib.hid (o.out.trans (c.out.trans (A.mono c.out.size) |>.mono o.out.size))
  clear A n hk
  go_wp2_with fail
  go_ret
  exact⟨rfl,g.out⟩
end Go.Proofs.YtlejmeegkpdabaaGreatDoor
