/- The proof of a statement, some of its texts joined in build order: part E2. -/
import Derived.Test.YtlejmeegkpdabaaGreatDoorMxE1
set_option maxHeartbeats 4000000
set_option maxRecDepth 100000
namespace Go.Proofs.YtlejmeegkpdabaaGreatDoor
open Go Go.RowKit Go.Maps
def mJ(s:Sg)(l:List Ent)(i:Nat)(w:World)(e:Ending)(w':World):Prop:=
 ∃t a c b,e= .returned (.tuple #[.slice a t.length c, .bool b])∧Ints (fun _=>True) w' a c t∧fu s l i=(if b=true then some t else none)∧Below w.heap.size w w'
theorem FC{s:Sg}{x:Ent}(h:cE s x=true):aw s (az x)=true:=by
 unfold cE at h
 simp only[Bool.and_eq_true]at h
 have a:=h.1.2.2
 unfold dc at a
 rw[Bool.and_eq_true]at a
 exact a.1
theorem wE{K:Nat}{w w1 w2:World}{p1 p2 p3:Addr}{v1 v2 v3:Value}(h:Below w.heap.size w w1∧w1.cell? p1=some v1∧w1.cell? p2=some v2∧w1.cell? p3=some v3)(hb:Below K w1 w2)(hK:K=w1.heap.size):
  Below w.heap.size w w2∧w2.cell? p1=some v1∧w2.cell? p2=some v2∧w2.cell? p3=some v3:=by
 subst hK
 exact⟨aa h.1 hb,cell_later hb h.2.1,cell_later hb h.2.2.1,cell_later hb h.2.2.2⟩
theorem Ic{B xb:Nat}{w:World}{s:Sg}{l:List Ent}(h:DLib B w xb s l)(i:Nat)(hi:i<l.length):
  Calls Tryz.prog 93 #[.pointer (some ⟨xb,0,none⟩), .int .i64 i] w (mJ s l i w):=by
 have z:=Bz h i hi
 have X:=Df h i hi
 obtain⟨U,V,la,lc,bm,q⟩:=h.op
 have ml:=q.hL.le
 have ms:=q.hS.le
 obtain⟨b,p,a1,c1,a2,c2,I,J,rfl,aP,p0,p1,p2,p3,R,z1,z2,G,hU,H⟩:=q.hL.ent i hi
 have aR:(i:Int)<(l.length:Int):=by omega
 have aT:=G.le
 have aU:=H.le
 have u:=jD hi
 have f:fu s l i=if ai l[i]=[]then some (az l[i])else if fF l (ae l[i])=true then(if(fO s (ek l (ae l[i])) (ai l[i])).2=0 then some (fO s (ek l (ae l[i])) (ai l[i])).1 else none)else none:=by unfold fu;rw[u]
 by_cases y:ai l[i]=[]
 ·rw[if_pos y]at f
  rw[decide_eq_true y]at z
  have S:=q.q1
  have cl:=mC a1 c1 (az l[i]) w G (by have:=(bj (FC ((iB q.ok).2.2.1 _ (List.getElem_mem hi)))).2.2.1;unfold dI;omega)
  have x:=Lib.hid z
  have K:=Lib.hid cl
  have g:=Lib.hid f
  clear z X cl f y q h G hU H u p0 p1 p3 R
  generalize az l[i]=t at*
  go_enter Tryz.func93,Tryz.ntmps93
  go_wp2_with fail
  refine x.out.mono ?_
  rintro e w1 ⟨rfl,rfl⟩
  go_wp2_with fail
  refine K.out.mono ?_
  rintro e w2 ⟨v,rfl,E,n⟩
  obtain⟨a,c,rfl,C⟩:=OwnI.ints E
  have j:=Lib.hid (show mJ s l i w (.returned (.tuple #[.slice a t.length c, .bool true])) w2 from⟨t,a,c,true,rfl,C.any,by rw[g.out];rfl,n⟩)
  clear E C n
  go_wp2_with fail
  go_ret2
  exact j.out
 rw[if_neg y]at f
 rw[decide_eq_false y]at z
 have x:=Lib.hid z
 have Y:=Lib.hid X
 have L:=Lib.hid q
 have g:=Lib.hid f
 have M:=Lib.hid H
 clear z X f y q h G hU H u p0 p1 p2 p3
 go_enter Tryz.func93,Tryz.ntmps93
 go_wp2_with fail
 refine x.out.mono ?_
 rintro e w1 ⟨rfl,rfl⟩
 go_wp2_with fail
 refine Y.out.mono ?_
 rintro e w2 ⟨n,hg⟩
 rcases hg with⟨m,rfl⟩|⟨m,v,rfl,E⟩
 ·have j:=Lib.hid (show mJ s l i w (.returned (.tuple #[.slice none 0 0, .bool false])) w2 from⟨[],none,0,false,rfl,Sl.empty,by rw[g.out,if_neg (by rw[m];simp)];rfl,n⟩)
  clear m n
  go_wp2_with fail
  go_ret2
  exact j.out
 have f:=g.out
 rw[if_pos m]at f
 have P:=uX l (ae l[i])
 have o:=L.out.call n
 obtain⟨ag,cg,rfl,hT⟩:=OwnL.sl E
 have vs:=fun W (hw:Below w2.heap.size w2 W)=>AO U ag I V cg J s (ek l (ae l[i])) (ai l[i]) W ((o.call hw).hS) (hT.below hw) ((M.out.below n).below hw)
 have F:=cell_later n R
 have q0:=o.q0
 have S:=o.q1
 obtain⟨r,hr⟩:∃r,fO s (ek l (ae l[i])) (ai l[i])=r:=⟨_,rfl⟩
 rw[hr]at f
 simp only[hr]at vs
 obtain⟨rt,T⟩:=r
 simp only at f
 have k:Below w2.heap.size w2 w2.drew:=Below.drew (.refl w2.heap.size _)
 have Q:Below w2.heap.size w2 w2.drew∧w2.drew.cell? ⟨xb,0,none⟩=some (.slice U s.length V)∧w2.drew.cell? ⟨xb,1,none⟩=some (.slice (some ⟨b,p,none⟩) l.length lc)∧w2.drew.cell? ⟨b,p+i*5+4,none⟩=some (.slice I (ai l[i]).length J):=
  ⟨k,cell_later k q0,cell_later k S,cell_later k F⟩
 have Z:=Lib.hid vs
 have g:=Lib.hid f
 have N:=Lib.hid n
 clear vs f hr o E hT m k n P R F q0 S
 generalize (ai l[i]).length=n3 at*
 generalize (ek l (ae l[i])).length=ng at*
 go_wp2_with fail
 go_region_held3 (fun w'=>Below w2.heap.size w2 w'∧w'.cell? ⟨xb,0,none⟩=some (.slice U s.length V)∧w'.cell? ⟨xb,1,none⟩=some (.slice (some ⟨b,p,none⟩) l.length lc)∧w'.cell? ⟨b,p+i*5+4,none⟩=some (.slice I n3 J))
  ((first|exact Q|exact wE ‹_› O rfl))
  ((go_at_call 140;(with_reducible refine(Z.out _ ?_).mono ?_);exact(And.left ‹_›);rintro e w3 ⟨a,c,rfl,D,O⟩))
 have A:=And.left (‹Below w2.heap.size w2 w3∧_›)
 have j:=Lib.hid (show mJ s l i w (.returned (.tuple #[.slice a rt.length c, .bool (T==0)])) w3 from⟨rt,a,c,T==0,rfl,D,by rw[g.out];by_cases h:T=0<;>simp[h],aa N.out A⟩)
 clear A D
 go_wp2_with fail
 go_ret2
 exact j.out
theorem FK{s:Sg}{l:List Ent}{i:Nat}{t:List Int}(h:fu s l i=some t):bY s l i=(aw s t&&aw s (az (l.getD i default))&&fb s t (az (l.getD i default))):=by unfold bY;rw[h]
theorem DT{s:Sg}{l:List Ent}{i:Nat}(h:fu s l i=none):bY s l i=false:=by unfold bY;rw[h]
theorem vX{B xb:Nat}{w:World}{s:Sg}{l:List Ent}(h:DLib B w xb s l)(i:Nat)(hi:i<l.length):
  Calls Tryz.prog 48 #[.pointer (some ⟨xb,0,none⟩), .int .i64 i] w fun e w'=>e= .returned (.bool (bY s l i))∧Below w.heap.size w w':=by
 have v:=Ic h i hi
 obtain⟨K,L,la,N,bm,o⟩:=h.op
 have ml:=o.hL.le
 have ms:=o.hS.le
 obtain⟨b,k,y,z,a2,c2,a3,c3,rfl,U,Z,p1,O,p3,p4,z1,z2,A,T,S⟩:=o.hL.ent i hi
 have V:(i:Int)<(l.length:Int):=by omega
 have X:=A.le
 have p:=jD hi
 have vH:=Lib.hid v
 have D:=Lib.hid o
 have C:=Lib.hid A
 have q:=Lib.hid p
 clear v o h A T S p Z p1 p3 p4
 go_enter Tryz.func48,Tryz.ntmps48
 go_wp2_with fail
 refine vH.out.mono ?_
 rintro e w2 ⟨t,a,c,R,rfl,E,hx,m⟩
 cases R with
 |false=>
  simp only[Bool.false_eq_true,↓reduceIte]at hx
  have f:=Lib.hid (And.intro (DT hx) m)
  clear hx m E
  go_wp2_with fail
  go_quiet (fail)
  go_wp2_with fail
  go_ret
  exact⟨aF f.out.1.symm,fW f.out.2 _⟩
 |true=>
  simp only[↓reduceIte]at hx
  have H:=FK hx
  rw[q.out]at H
  have j:=D.out.call m
  have x:=fun W (hw:Below w2.heap.size w2 W)=>Az K a y L c z s t (az l[i]) W ((j.call hw).hS) (E.below hw) ((C.out.below m).below hw)
  have u:=cell_later m O
  have P:=j.q0
  have Q:=j.q1
  rw[←H]at x
  obtain⟨r,hr⟩:∃r,bY s l i=r:=⟨_,rfl⟩
  simp only[hr]at x
  have J:=Lib.hid hr
  clear hr
  have g:Below w2.heap.size w2 w2.drew:=Below.drew (.refl w2.heap.size _)
  have I:Below w2.heap.size w2 w2.drew∧w2.drew.cell? ⟨xb,0,none⟩=some (.slice K s.length L)∧w2.drew.cell? ⟨xb,1,none⟩=some (.slice (some ⟨b,k,none⟩) l.length N)∧w2.drew.cell? ⟨b,k+i*5+2,none⟩=some (.slice y (az l[i]).length z):=
   ⟨g,cell_later g P,cell_later g Q,cell_later g u⟩
  have M:=Lib.hid x
  have F:=Lib.hid m
  clear x H hx j E g m O u P Q
  generalize (az l[i]).length=Y at*
  go_wp2_with fail
  go_region_held3 (fun w'=>Below w2.heap.size w2 w'∧w'.cell? ⟨xb,0,none⟩=some (.slice K s.length L)∧w'.cell? ⟨xb,1,none⟩=some (.slice (some ⟨b,k,none⟩) l.length N)∧w'.cell? ⟨b,k+i*5+2,none⟩=some (.slice y Y z))
   ((first|exact I|exact wE ‹_› G rfl))
   ((go_at_call 94;(with_reducible refine(M.out _ ?_).mono ?_);exact(And.left ‹_›);rintro e w3 ⟨rfl,G⟩))
  have n:=And.left (‹Below w2.heap.size w2 w3∧_›)
  have f:=Lib.hid (aa F.out n)
  clear n
  go_wp2_with fail
  go_ret
  exact⟨aF J.out.symm,f.out⟩
theorem vY{B xb:Nat}{w:World}{s:Sg}{l:List Ent}(h:DLib B w xb s l)(i:Nat)(hi:i<l.length):∀W,Below B w W→Calls Tryz.prog 48 #[.pointer (some ⟨xb,0,none⟩), .int .i64 i] W fun e w'=>e= .returned (.bool (bY s l i))∧Below W.heap.size W w':=
 fun _ a=>vX (h.below a) i hi
theorem BG{B xb xc b1 b2:Nat}{w:World}{s:Sg}{l l':List Ent}(h:DLib B w xb s l)(h':DLib B w xc s l')(hl:l'.length=l.length)(hb1:b1<B)(hb2:b2<B)
  (hc1:w.cell? ⟨b1,0,none⟩=some (.pointer (some ⟨xb,0,none⟩))) (hc2:w.cell? ⟨b2,0,none⟩=some (.pointer (some ⟨xc,0,none⟩))):
  sW 47 #[.pointer (some ⟨b1,0,none⟩), .pointer (some ⟨b2,0,none⟩)] l.length (fun i=>bY s l i&& !bY s l' i) B w:=by
 refine⟨enters_of Tryz.func47 (by kernel_rfl) rfl,fun i A W g=> ?_⟩
 have C:=(g.cell (p:=⟨b1,0,none⟩) hb1).trans hc1
 have u:=(g.cell (p:=⟨b2,0,none⟩) hb2).trans hc2
 have x:=vY h i A W g
 have k:=h.1
 have y:=fun t (hw:Below W.heap.size W t)=>vY h' i (by omega) t (g.trans (hw.mono (Nat.le_trans k g.size)))
 have f:=Lib.hid x
 have n:=Lib.hid y
 clear x y g h h' hc1 hc2 k hb1 hb2
 obtain⟨v,b⟩:∃r,bY s l i=r:=⟨_,rfl⟩
 obtain⟨E,c⟩:∃r,bY s l' i=r:=⟨_,rfl⟩
 have m:=Lib.hid (show(bY s l i&& !bY s l' i)=(v&& !E)by rw[b,c])
 rw[b]at f
 rw[c]at n
 clear b c
 cases v with
 |false=>
  go_enter Tryz.func47,Tryz.ntmps47
  go_wp2_with fail
  refine f.out.mono ?_
  rintro e z ⟨rfl,a⟩
  go_wp2_with fail
  go_ret
  exact⟨aF m.out.symm,a⟩
 |true=>
  go_enter Tryz.func47,Tryz.ntmps47
  go_wp2_with fail
  refine f.out.mono ?_
  rintro e z ⟨rfl,a⟩
  have D:=cell_later a u
  have q:=Lib.hid (n.out z a)
  have o:=Lib.hid a
  clear a C u
  go_wp2_with fail
  refine q.out.mono ?_
  rintro e w2 ⟨rfl,a⟩
  have j:=Lib.hid (aa o.out a)
  clear a
  go_wp2_with fail
  go_ret
  exact⟨aF m.out.symm,j.out⟩
theorem yJ{l:List Ent}{i:Nat}{t:List Int}:(dP l i t).map af=l.map af:=by
 apply List.ext_getElem
 ·simp[ia]
 intro k b a
 simp only[List.length_map,ia]at b a
 rw[List.getElem_map,List.getElem_map]
 by_cases e:i=k
 ·subst e;rw[rU a];rfl
 rw[rT a e]
theorem Bl{l l':List Ent}(h:l.map af=l'.map af)(n:ByteArray):aG l n=aG l' n:=by
 unfold aG
 have e:∀m:List Ent,m.findIdx? (fun x=>decide (af x=n))=(m.map af).findIdx? (fun y=>decide (y=n)):=fun m=>by
  rw[List.findIdx?_map];rfl
 rw[e l,e l',h]
theorem G5{s:Sg}{l:List Ent}{i:Nat}{t:List Int}(h:bz s l=true)(hi:i<l.length)(ht:dc s t=true):bz s (dP l i t)=true:=by
 obtain⟨g,j,c,m⟩:=iB h
 unfold bz
 rw[g,ia,decide_eq_true j,yJ,decide_eq_true m,Bool.true_and,Bool.true_and,Bool.and_true,List.all_eq_true]
 intro x hx
 obtain⟨k,f,rfl⟩:=List.getElem_of_mem hx
 have b:k<l.length:=by rw[ia]at f;exact f
 by_cases e:i=k
 ·subst e
  rw[rU hi]
  have a:=c l[i] (List.getElem_mem hi)
  unfold cE at a⊢
  simp only[af,aC,az,ae,ai,Bool.and_eq_true]at a⊢
  exact⟨⟨a.1.1,a.1.2.1,ht⟩,a.2⟩
 rw[rT b e]
 exact c _ (List.getElem_mem b)
theorem OwnL.baseW{α:Type}{E:Enc α}{S:Nat→Prop}{w:World}{base base':Nat}{e:TypeId}{v:Value}{l:List α}(h:OwnL E S w base e v l)(hb:base'≤base):OwnL E S w base' e v l:=by
 obtain⟨n,i,j,hx⟩:=h
 refine⟨n,⟨i.1,?_⟩,j,hx⟩
 rcases i.2 with k|⟨g,b,c,m,f,a⟩
 ·exact .inl k
 exact .inr ⟨g,b,c,m,Nat.le_trans hb f,a⟩
theorem CL{S:Nat→Prop}{w:World}{base g cap:Nat}{l:List Ent}(h:OwnE S w base (.slice (some ⟨g,0,none⟩) l.length cap) l)(i:Nat)(hi:i<l.length):∃v,w.cell? ⟨g,i*5+2,none⟩=some v∧w.frozen? ⟨g,i*5+2,none⟩=false:=by
 obtain⟨j,c,m,hx⟩:=h
 have a:∀x∈j,x.length=5:=fun x b=>by
  obtain⟨k,f,rfl⟩:=List.getElem_of_mem b
  exact entE.len (hx k f (by omega))
 have hf:=im a i (by omega) 2 (by rw[a _ (List.getElem_mem (by omega))];omega)
 exact⟨_,(c.cellAt (i*5+2) (by show i*5+2<l.length*5;omega)).trans hf,c.frozenAt _⟩
theorem pK{B:Nat}{w2 wF:World}{xb xc b10 b14 g cap:Nat}{s:Sg}{l:List Ent}{sa:Option Addr}{sc:Nat}{la:Option Addr}{lc bm:Nat}{ta:Option Addr}{tc:Nat}{t:List Int}{i:Nat}(hO:DOp B w2 xb s l sa sc la lc bm)(hBF:Below w2.heap.size w2 wF)
  (h10:b10<w2.heap.size) (q10:w2.cell? ⟨b10,0,none⟩=some (.pointer (some ⟨xb,0,none⟩))) (ho:OwnE (fun b=>b<w2.heap.size) wF w2.heap.size (.slice (some ⟨g,0,none⟩) l.length cap) l)
  (hc0:wF.cell? ⟨xc,0,none⟩=some (.slice sa s.length sc)) (hc1:wF.cell? ⟨xc,1,none⟩=some (.slice (some ⟨g,0,none⟩) l.length cap)) (hc2:wF.cell? ⟨xc,2,none⟩=some (.map (some bm)))
  (hc14:wF.cell? ⟨b14,0,none⟩=some (.pointer (some ⟨xc,0,none⟩))) (hxg:xc≠g) (hbg:b14≠g) (ht:Ints (fun b=>b<w2.heap.size) wF ta tc t) (hcn:dc s t=true) (hi:i<l.length):
  (∃v,wF.cell? ⟨g,i*5+2,none⟩=some v∧wF.frozen? ⟨g,i*5+2,none⟩=false)∧(wF.setCell ⟨g,i*5+2,none⟩ (.slice ta t.length tc)).cell? ⟨b10,0,none⟩=some (.pointer (some ⟨xb,0,none⟩))∧
   Below w2.heap.size w2 (wF.setCell ⟨g,i*5+2,none⟩ (.slice ta t.length tc))∧
   Calls Tryz.prog 46 #[.pointer (some ⟨xb,0,none⟩), .func (.func 47) #[] #[.pointer (some ⟨b10,0,none⟩), .pointer (some ⟨b14,0,none⟩)]] (wF.setCell ⟨g,i*5+2,none⟩ (.slice ta t.length tc))
    (SortedOut (wF.setCell ⟨g,i*5+2,none⟩ (.slice ta t.length tc)) (fh l (fun k=>bY s l k&& !bY s (dP l i t) k))):=by
 obtain⟨H,I⟩:=OwnL.lt ho g rfl
 obtain⟨q,c⟩:=OwnE.setSays ho i hi (ht.weak (fun b G=>⟨G,by omega⟩))
 obtain⟨m,y⟩:∃m,wF.setCell ⟨g,i*5+2,none⟩ (.slice ta t.length tc)=m:=⟨_,rfl⟩
 rw[y]at q c⊢
 have f:Below w2.heap.size w2 m:=hBF.grown c hBF.size (fun k e=>by injection e with e;omega)
 have o:=cell_later f q10
 have J:=c.size
 have j:∀{k:Nat},k≠g→some k≠some g:=fun h e=>h (by injection e)
 have A:=c.cell hc0 (j hxg)
 have C:=c.cell hc1 (j hxg)
 have D:=c.cell hc2 (j hxg)
 have p:=c.cell hc14 (j hbg)
 have a:=hO.call f
 have x:LibL (fun b=>b<m.heap.size) m (some ⟨g,0,none⟩) cap (dP l i t):=by
  obtain⟨K,L,e,hs⟩:=OwnL.sl q
  rw[ia]at e
  injection e with E _ F
  subst E F
  exact hs.lt.weak (fun b h=>h.2)
 have r:DLib m.heap.size m xc s (dP l i t):=by
  obtain⟨n,u,w⟩:=a.hM
  refine⟨Nat.le_refl _,World.block_lt_of_cell? m _ A,G5 hO.ok hi hcn,sa,sc,some ⟨g,0,none⟩,cap,bm,A,by rw[ia];exact C,D,Nat.lt_of_lt_of_le a.hb a.le,a.hS.weak (fun b h=>Nat.lt_of_lt_of_le h a.le),x,n,u,?_⟩
  have e:eH (dP l i t)=eH l:=by funext z;unfold eH;rw[Bl yJ z]
  rw[e];exact w
 refine⟨CL ho i hi,o,f,?_⟩
 exact BX (a.lib.mono a.le (Nat.le_refl _)) (BG (a.lib.mono a.le (Nat.le_refl _)) r (ia l i t) (by have:=f.size;omega) (World.block_lt_of_cell? m _ p) o p)
theorem ym{P:Program}{Q:Exit→Act→World→Prop}{md:Region.Mode}{S:World→Prop}{l:List Oper}{listed:Array Bool}{fuel:Nat}{a:Act}{w:World}(i j:Nat){o o':Oper}(hi:l[i]?=some o)(hj:l[j]?=some o')(hr:Region.ready md l.toArray listed=[i,j])
  (h:∀K':Act→World→Prop,Shut (∀a w,S w→(S w→wpAnyH P md l.toArray Q S fuel (listed.setIfInBounds i true) a w)→K' a w)→if Region.wanted o (yielded l.toArray a.tmps)=true then Oper.wp P o a w K' Q else K' (a.put o.dst undef) w)
  (h':∀K':Act→World→Prop,Shut (∀a w,S w→(S w→wpAnyH P md l.toArray Q S fuel (listed.setIfInBounds j true) a w)→K' a w)→if Region.wanted o' (yielded l.toArray a.tmps)=true then Oper.wp P o' a w K' Q else K' (a.put o'.dst undef) w):
  wpAnyH P md l.toArray Q S (fuel+1) listed a w:=
 wpAnyH_ready hr (by simp) (AllReadyH.cons (by simpa using hi) h (AllReadyH.cons (by simpa using hj) h' AllReadyH.nil))
noncomputable def fB(s:Sg)(l:List Ent)(n:ByteArray)(t:List Int):(ByteArray→Bool)×Int:=
 if bz s l&&dc s t then(match aG l n with|some i=>(fh l (fun k=>bY s l k&& !bY s (dP l i t) k),0)|none=>(fun _=>false,5))else(fun _=>false,1)
theorem Aj{S1 S2 S3:Nat→Prop}(sa la ta:Option Addr)(sc lc tc:Nat)(s:Sg)(l:List Ent)(n:ByteArray)(t:List Int)(hn:n.size≤aB)(w:World)(h1:Sign S1 w sa sc s)(h2:LibL S2 w la lc l)(h3:Ints S3 w ta tc t)(hl:l.length≤1000):
  Calls Tryz.prog 15 #[.slice sa s.length sc, .slice la l.length lc, .string n, .slice ta t.length tc] w (NamesRet (fB s l n t).1 (fB s l n t).2 w):=by
 have v:=ro sa la sc lc s l w h1 h2 hl
 have m:=h2.le
 have m1:=h1.le
 have m3:=h3.le
 obtain⟨r,hr⟩:∃r,fB s l n t=r:=⟨_,rfl⟩
 rw[hr]
 have vH:=Lib.hid v
 have aT:=Lib.hid hr
 have bS:=Lib.hid h1
 have bU:=Lib.hid h2.lt
 have ax:=Lib.hid h3.lt
 clear v h1 h2 h3 hr
 go_enter Tryz.func15,Tryz.ntmps15
 go_wp2_with fail
 refine vH.out.mono ?_
 rintro e X ⟨hb,h⟩
 rcases h with⟨P,rfl⟩|⟨P,M,bx,rfl,hD⟩
 ·have hf:fB s l n t=(fun _=>false,1):=by unfold fB;rw[P];rfl
  have C:=Lib.hid (aT.out.symm.trans hf)
  have R:=Lib.hid (aa hb (an X (.cells #[.pointer none] 79)))
  clear hb P vH hf
  go_wp2_with fail
  go_ret2
  rw[C.out]
  exact NamesRet.nil R.out
 obtain⟨W,hW⟩:∃W,X.alloc (.cells #[.pointer (some ⟨M,0,none⟩)] 79)=W:=⟨_,rfl⟩
 have ay:Below X.heap.size X W:=by rw[←hW];exact an X _
 have q0:W.cell? ⟨X.heap.size,0,none⟩=some (.pointer (some ⟨M,0,none⟩)):=by rw[←hW];clear hW;go_simp
 have T:=aa hb ay
 have a4:=hD.call ay
 have vc:=sU sa ta sc tc s t W (bS.out.below T) (ax.out.below T)
 have b2:X.heap.size<W.heap.size:=by rw[←hW];simp
 cases V:dc s t with
 |false=>
  rw[V]at vc
  have hf:fB s l n t=(fun _=>false,1):=by unfold fB;rw[P,V];rfl
  have C:=Lib.hid (aT.out.symm.trans hf)
  have a9:=Lib.hid vc
  have R:=Lib.hid T
  clear hb P vH hf vc T ay a4 hD bx V b2 q0
  go_wp2_with fail
  try rw[hW]
  refine a9.out.mono ?_
  rintro e w2 ⟨rfl,B⟩
  have G:=Lib.hid (aa R.out B)
  clear B
  go_wp2_with fail
  go_ret2
  rw[C.out]
  exact NamesRet.nil G.out
 |true=>
  rw[V]at vc
  have a9:=Lib.hid vc
  have R:=Lib.hid T
  have b0:=Lib.hid a4
  have a3:=Lib.hid P
  have H:=Lib.hid V
  clear hb P vH vc T ay a4 hD bx V
  go_wp2_with fail
  try rw[hW]
  refine a9.out.mono ?_
  rintro e w2 ⟨rfl,B⟩
  obtain⟨y,z,cg,ch,N,hO⟩:=(b0.out.call B).op
  have q2:=hO.q2
  have aP:=hO.look n hn
  have Q:=cell_later B q0
  cases F:aG l n with
  |none=>
   rw[F]at aP
   simp only[Option.getD_none,Option.isSome_none]at aP
   have hf:fB s l n t=(fun _=>false,5):=by unfold fB;rw[a3.out,H.out,F];rfl
   have C:=Lib.hid (aT.out.symm.trans hf)
   have G:=Lib.hid (aa R.out B)
   clear B F hO hf hW
   go_wp2_with fail
   go_ret2
   rw[C.out]
   exact NamesRet.nil G.out
  |some i=>
   rw[F]at aP
   simp only[Option.getD_some,Option.isSome_some]at aP
   obtain⟨hi,-⟩:=gx F
   have hf:fB s l n t=(fh l (fun k=>bY s l k&& !bY s (dP l i t) k),0):=by unfold fB;rw[a3.out,H.out,F];rfl
   have C:=Lib.hid (aT.out.symm.trans hf)
   have aR:=hO.q0
   have ad:=aa R.out B
   have U:Below w2.heap.size w2 w2.drew:=Below.drew (.refl w2.heap.size _)
   have cl:=fun Wc (hc:Below w2.heap.size w2 Wc)=>Al la lc l Wc (bU.out.below (aa ad hc)) hl
   have bn:=Lib.hid cl
   have a5:=Lib.hid hO
   have G:=Lib.hid B
   have j:=Lib.hid ad
   have b5:=Lib.hid F
   have cc:=Lib.hid hW
   clear B F hO hf hW cl ad
   have b1:w2.drew.cell? ⟨X.heap.size,0,none⟩=some (.pointer (some ⟨M,0,none⟩))∧w2.drew.cell? ⟨M,0,none⟩=some (.slice y s.length z)∧w2.drew.cell? ⟨M,2,none⟩=some (.map (some N)):=⟨cell_later U Q,cell_later U aR,cell_later U q2⟩
   go_upto_region 7 with fail
   refine wp_region_held_drew (S:=fun w'=>w'.cell? ⟨X.heap.size,0,none⟩=some (.pointer (some ⟨M,0,none⟩))∧w'.cell? ⟨M,0,none⟩=some (.slice y s.length z)∧w'.cell? ⟨M,2,none⟩=some (.map (some N))) (by kernel_rfl) b1 (fun hS=> ?_)
   refine ak 0 40 (v:= ?_) hS ?_ ?_;rotate_left;·(intro w9 o;obtain⟨p0,p1,p2⟩:=o;go_simp;try(with_reducible rfl))
   refine ak 1 41 (v:= ?_) hS ?_ ?_;rotate_left;·(intro w9 o;obtain⟨p0,p1,p2⟩:=o;go_simp;try(with_reducible rfl))
   refine ak 2 42 (v:= ?_) hS ?_ ?_;rotate_left;·(intro w9 o;obtain⟨p0,p1,p2⟩:=o;go_simp;try(with_reducible rfl))
   refine ak 3 43 (v:= ?_) hS ?_ ?_;rotate_left;·(intro w9 o;obtain⟨p0,p1,p2⟩:=o;go_simp;try(with_reducible rfl))
   refine ak 4 44 (v:= ?_) hS ?_ ?_;rotate_left;·(intro w9 o;obtain⟨p0,p1,p2⟩:=o;go_simp;try(with_reducible rfl))
   refine ak 6 46 (v:= ?_) hS ?_ ?_;rotate_left;·(intro w9 o;obtain⟨p0,p1,p2⟩:=o;go_simp;try(with_reducible rfl))
   refine ak 7 47 (v:= ?_) hS ?_ ?_;rotate_left;·(intro w9 o;obtain⟨p0,p1,p2⟩:=o;go_simp;try(with_reducible rfl))
   refine ak 8 48 (v:= ?_) hS ?_ ?_;rotate_left;·(intro w9 o;obtain⟨p0,p1,p2⟩:=o;go_simp;try(with_reducible rfl))
   refine ak 9 49 (v:= ?_) hS ?_ ?_;rotate_left;·(intro w9 o;obtain⟨p0,p1,p2⟩:=o;go_simp;try(with_reducible rfl))
   have bw:=Lib.hid (show l≠ []from fun e=>by subst e;simp at hi)
   have al:X.heap.size<w2.heap.size:=by have:=G.out.size;omega
   refine ym 5 12 rfl rfl (by kernel_rfl) (fun K A=> ?_) (fun K A=> ?_)
   ·skip
    go_simp
    (with_reducible refine(bn.out _ U).mono ?_)
    rintro e x ⟨v5,rfl,D,u⟩
    obtain⟨g,q,rfl,aN,aO⟩:=OwnL.form D bw.out
    go_simp
    refine A.out _ _ ⟨cell_later (u) hS.1,cell_later (u) hS.2.1,cell_later (u) hS.2.2⟩ ?_
    clear A hS K
    intro hS
    try simp only[Act.put,List.setIfInBounds_toArray,List.set_cons_zero,List.set_cons_succ]
    refine ak 10 50 (v:= ?_) hS ?_ ?_;rotate_left;·(intro w9 o;obtain⟨p0,p1,p2⟩:=o;go_simp;try(with_reducible rfl))
    try simp only[Act.put,List.setIfInBounds_toArray,List.set_cons_zero,List.set_cons_succ]
    have O:∀f:World,x.grownBy f none→OwnE (fun b=>b<w2.heap.size) f w2.heap.size (.slice (some ⟨g,0,none⟩) l.length q) l:=fun f hg=>
     ((OwnL.weak D (fun b _ h=>Nat.lt_of_lt_of_le h.1.2 j.out.size)).grown hg (fun _ _ e=>by cases e) (fun _ _ _ e=>by cases e)).baseW (by first|exact Nat.le_refl _|simp)
    refine ym 11 12 rfl rfl (by kernel_rfl) (fun K A=> ?_) (fun K A=> ?_)
    ·skip
     go_simp
     refine A.out _ _ ⟨cell_later (an _ _) hS.1,cell_later (an _ _) hS.2.1,cell_later (an _ _) hS.2.2⟩ ?_
     clear A hS K
     intro hS
     try simp only[Act.put,List.setIfInBounds_toArray,List.set_cons_zero,List.set_cons_succ]
     refine bI 12 rfl (by kernel_rfl) (fun K A=> ?_)
     go_simp
     refine A.out _ _ ⟨cell_later (an _ _) hS.1,cell_later (an _ _) hS.2.1,cell_later (an _ _) hS.2.2⟩ ?_
     clear A hS K
     intro hS
     try simp only[Act.put,List.setIfInBounds_toArray,List.set_cons_zero,List.set_cons_succ]
     refine bI 13 rfl (by kernel_rfl) (fun K A=> ?_)
     obtain⟨f,c⟩:∃f,(x.alloc (libO y (some ⟨g,0,none⟩) s.length z l.length q N)).alloc (.cells #[.pointer (some ⟨x.heap.size,0,none⟩)] 79)=f:=⟨_,rfl⟩
     have p:Below w2.heap.size w2 f:=by rw[←c];exact aa (aa U u) (dT _ _ _)
     have aj:f.heap.size=x.heap.size+2:=by rw[←c];simp
     have c0:f.cell? ⟨x.heap.size,0,none⟩=some (.slice y s.length z):=by rw[←c];clear c;go_simp
     have c1:f.cell? ⟨x.heap.size,1,none⟩=some (.slice (some ⟨g,0,none⟩) l.length q):=by rw[←c];clear c;go_simp
     have c2:f.cell? ⟨x.heap.size,2,none⟩=some (.map (some N)):=by rw[←c];clear c;go_simp
     have Y:f.cell? ⟨x.heap.size+1,0,none⟩=some (.pointer (some ⟨x.heap.size,0,none⟩)):=by rw[←c];clear c;go_simp
     have I:OwnE (fun b=>b<w2.heap.size) f w2.heap.size (.slice (some ⟨g,0,none⟩) l.length q) l:=O f (by rw[←c];exact jC (dT _ _ _))
     have L:Ints (fun b=>b<w2.heap.size) f ta tc t:=(ax.out.below (aa j.out p)).weak (fun b h=>Nat.lt_of_lt_of_le h.2 j.out.size)
     obtain⟨⟨v0,e1,e2⟩,e3,e4,e5⟩:=pK a5.out p al Q I c0 c1 c2 Y (by omega) (by omega) L H.out hi
     have Z:=Lib.hid (aa j.out e4)
     have ab:=Lib.hid e5
     have E:=Lib.hid (show f.cell? ⟨X.heap.size,0,none⟩=some (.pointer (some ⟨M,0,none⟩))∧f.cell? ⟨M,0,none⟩=some (.slice y s.length z)∧f.cell? ⟨M,2,none⟩=some (.map (some N))from⟨cell_later p Q,cell_later p aR,cell_later p q2⟩)
     have bv:(i:Int)<(l.length:Int):=by omega
     clear I L p e4 e5 aj O
     go_simp
     try rw[c]
     refine A.out _ _ E.out ?_
     clear A hS K c E
     intro hS
     refine wpAnyH_done (by kernel_rfl) ?_ _
     clear hS c0 c2 u D aN aO
     go_wp2_with fail
     refine ab.out.mono ?_
     rintro e w6 J
     obtain⟨v,rfl,hN⟩:=J.names Z.out
     have ac:=Lib.hid (hN 0)
     clear hN J e1 e2 e3
     go_wp2_with fail
     go_ret2
     rw[C.out]
     exact ac.out
    skip
    go_simp
    refine A.out _ _ ⟨cell_later (an _ _) hS.1,cell_later (an _ _) hS.2.1,cell_later (an _ _) hS.2.2⟩ ?_
    clear A hS K
    intro hS
    try simp only[Act.put,List.setIfInBounds_toArray,List.set_cons_zero,List.set_cons_succ]
    refine bI 11 rfl (by kernel_rfl) (fun K A=> ?_)
    go_simp
    refine A.out _ _ ⟨cell_later (an _ _) hS.1,cell_later (an _ _) hS.2.1,cell_later (an _ _) hS.2.2⟩ ?_
    clear A hS K
    intro hS
    try simp only[Act.put,List.setIfInBounds_toArray,List.set_cons_zero,List.set_cons_succ]
    refine bI 13 rfl (by kernel_rfl) (fun K A=> ?_)
    obtain⟨f,c⟩:∃f,(x.alloc (.cells #[.pointer (some ⟨x.heap.size+1,0,none⟩)] 79)).alloc (libO y (some ⟨g,0,none⟩) s.length z l.length q N)=f:=⟨_,rfl⟩
    have p:Below w2.heap.size w2 f:=by rw[←c];exact aa (aa U u) (dT _ _ _)
    have aj:f.heap.size=x.heap.size+2:=by rw[←c];simp
    have c0:f.cell? ⟨x.heap.size+1,0,none⟩=some (.slice y s.length z):=by rw[←c];clear c;go_simp
    have c1:f.cell? ⟨x.heap.size+1,1,none⟩=some (.slice (some ⟨g,0,none⟩) l.length q):=by rw[←c];clear c;go_simp
    have c2:f.cell? ⟨x.heap.size+1,2,none⟩=some (.map (some N)):=by rw[←c];clear c;go_simp
    have Y:f.cell? ⟨x.heap.size,0,none⟩=some (.pointer (some ⟨x.heap.size+1,0,none⟩)):=by rw[←c];clear c;go_simp
    have I:OwnE (fun b=>b<w2.heap.size) f w2.heap.size (.slice (some ⟨g,0,none⟩) l.length q) l:=O f (by rw[←c];exact jC (dT _ _ _))
    have L:Ints (fun b=>b<w2.heap.size) f ta tc t:=(ax.out.below (aa j.out p)).weak (fun b h=>Nat.lt_of_lt_of_le h.2 j.out.size)
    obtain⟨⟨v0,e1,e2⟩,e3,e4,e5⟩:=pK a5.out p al Q I c0 c1 c2 Y (by omega) (by omega) L H.out hi
    have Z:=Lib.hid (aa j.out e4)
    have ab:=Lib.hid e5
    have E:=Lib.hid (show f.cell? ⟨X.heap.size,0,none⟩=some (.pointer (some ⟨M,0,none⟩))∧f.cell? ⟨M,0,none⟩=some (.slice y s.length z)∧f.cell? ⟨M,2,none⟩=some (.map (some N))from⟨cell_later p Q,cell_later p aR,cell_later p q2⟩)
    have bv:(i:Int)<(l.length:Int):=by omega
    clear I L p e4 e5 aj O
    go_simp
    try rw[c]
    refine A.out _ _ E.out ?_
    clear A hS K c E
    intro hS
    refine wpAnyH_done (by kernel_rfl) ?_ _
    clear hS c0 c2 u D aN aO
    go_wp2_with fail
    refine ab.out.mono ?_
    rintro e w6 J
    obtain⟨v,rfl,hN⟩:=J.names Z.out
    have ac:=Lib.hid (hN 0)
    clear hN J e1 e2 e3
    go_wp2_with fail
    go_ret2
    rw[C.out]
    exact ac.out
   skip
   go_simp
   refine A.out _ _ ⟨cell_later (an _ _) hS.1,cell_later (an _ _) hS.2.1,cell_later (an _ _) hS.2.2⟩ ?_
   clear A hS K
   intro hS
   try simp only[Act.put,List.setIfInBounds_toArray,List.set_cons_zero,List.set_cons_succ]
   refine bI 5 rfl (by kernel_rfl) (fun K A=> ?_)
   go_simp
   (with_reducible refine(bn.out _ (Below.drew (an _ _))).mono ?_)
   rintro e x ⟨v5,rfl,D,u⟩
   obtain⟨g,q,rfl,aN,aO⟩:=OwnL.form D bw.out
   go_simp
   refine A.out _ _ ⟨cell_later (u) hS.1,cell_later (u) hS.2.1,cell_later (u) hS.2.2⟩ ?_
   clear A hS K
   intro hS
   try simp only[Act.put,List.setIfInBounds_toArray,List.set_cons_zero,List.set_cons_succ]
   refine ak 10 50 (v:= ?_) hS ?_ ?_;rotate_left;·(intro w9 o;obtain⟨p0,p1,p2⟩:=o;go_simp;try(with_reducible rfl))
   try simp only[Act.put,List.setIfInBounds_toArray,List.set_cons_zero,List.set_cons_succ]
   have cf:((w2.alloc (.cells #[.pointer none] 79)).drew).heap.size=w2.heap.size+1:=by simp
   have O:∀f:World,x.grownBy f (some w2.heap.size)→OwnE (fun b=>b<w2.heap.size) f w2.heap.size (.slice (some ⟨g,0,none⟩) l.length q) l:=fun f hg=>
    ((OwnL.weak D (fun b _ h=>Nat.lt_of_lt_of_le h.1.2 j.out.size)).grown hg (fun k hk e=>by have:=(OwnL.lt D k hk).1;injection e with e;omega) (fun b hb _ e=>by injection e with e;omega)).baseW (by omega)
   refine bI 11 rfl (by kernel_rfl) (fun K A=> ?_)
   go_simp
   refine A.out _ _ ⟨cell_later (an _ _) hS.1,cell_later (an _ _) hS.2.1,cell_later (an _ _) hS.2.2⟩ ?_
   clear A hS K
   intro hS
   try simp only[Act.put,List.setIfInBounds_toArray,List.set_cons_zero,List.set_cons_succ]
   refine bI 13 rfl (by kernel_rfl) (fun K A=> ?_)
   have b6:w2.heap.size<x.heap.size:=by have:=u.size;omega
   have b8:x.cell? ⟨w2.heap.size,0,none⟩=some (.pointer none):=cell_later u (by go_simp)
   have ci:(x.alloc (libO y (some ⟨g,0,none⟩) s.length z l.length q N)).cell? ⟨w2.heap.size,0,none⟩=some (.pointer none):=cell_later (an _ _) (cell_later u (by go_simp))
   have cm:(x.alloc (libO y (some ⟨g,0,none⟩) s.length z l.length q N)).frozen? ⟨w2.heap.size,0,none⟩=false:=by
    rw[World.frozen?_of_block (a:=⟨w2.heap.size,0,none⟩) ((aa u (an x (libO y (some ⟨g,0,none⟩) s.length z l.length q N))).block w2.heap.size (by omega))]
    go_simp
   have ag:=Dd (x.alloc (libO y (some ⟨g,0,none⟩) s.length z l.length q N)) w2.heap.size 0 (.pointer (some ⟨x.heap.size,0,none⟩))
   have bu:=aa (Below.drew (an w2 (.cells #[.pointer none] 79))) (aa u (an x (libO y (some ⟨g,0,none⟩) s.length z l.length q N)))
   obtain⟨f,c⟩:∃f,(x.alloc (libO y (some ⟨g,0,none⟩) s.length z l.length q N)).setCell ⟨w2.heap.size,0,none⟩ (.pointer (some ⟨x.heap.size,0,none⟩))=f:=⟨_,rfl⟩
   have p:Below w2.heap.size w2 f:=by rw[←c];exact bu.grown ag bu.size (fun k e=>by injection e with e;omega)
   have aj:f.heap.size=x.heap.size+1:=by rw[←c];simp
   have c0:f.cell? ⟨x.heap.size,0,none⟩=some (.slice y s.length z):=by rw[←c];exact ag.cell (by clear c;go_simp) (by intro e;injection e with e;simp at e;omega)
   have c1:f.cell? ⟨x.heap.size,1,none⟩=some (.slice (some ⟨g,0,none⟩) l.length q):=by rw[←c];exact ag.cell (by clear c;go_simp) (by intro e;injection e with e;simp at e;omega)
   have c2:f.cell? ⟨x.heap.size,2,none⟩=some (.map (some N)):=by rw[←c];exact ag.cell (by clear c;go_simp) (by intro e;injection e with e;simp at e;omega)
   have Y:f.cell? ⟨w2.heap.size,0,none⟩=some (.pointer (some ⟨x.heap.size,0,none⟩)):=by rw[←c];clear c;go_simp
   have I:OwnE (fun b=>b<w2.heap.size) f w2.heap.size (.slice (some ⟨g,0,none⟩) l.length q) l:=O f (by rw[←c];exact iW (jC (an _ _)) ag)
   have L:Ints (fun b=>b<w2.heap.size) f ta tc t:=(ax.out.below (aa j.out p)).weak (fun b h=>Nat.lt_of_lt_of_le h.2 j.out.size)
   obtain⟨⟨v0,e1,e2⟩,e3,e4,e5⟩:=pK a5.out p al Q I c0 c1 c2 Y (by omega) (by omega) L H.out hi
   have Z:=Lib.hid (aa j.out e4)
   have ab:=Lib.hid e5
   have E:=Lib.hid (show f.cell? ⟨X.heap.size,0,none⟩=some (.pointer (some ⟨M,0,none⟩))∧f.cell? ⟨M,0,none⟩=some (.slice y s.length z)∧f.cell? ⟨M,2,none⟩=some (.map (some N))from⟨cell_later p Q,cell_later p aR,cell_later p q2⟩)
   have bv:(i:Int)<(l.length:Int):=by omega
   clear I L p e4 e5 aj O
   go_simp
   try rw[c]
   refine A.out _ _ E.out ?_
   clear A hS K c E
   intro hS
   refine wpAnyH_done (by kernel_rfl) ?_ _
   clear hS c0 c2 u D aN aO
   go_wp2_with fail
   refine ab.out.mono ?_
   rintro e w6 J
   obtain⟨v,rfl,hN⟩:=J.names Z.out
   have ac:=Lib.hid (hN 0)
   clear hN J e1 e2 e3
   go_wp2_with fail
   go_ret2
   rw[C.out]
   exact ac.out
end Go.Proofs.YtlejmeegkpdabaaGreatDoor
