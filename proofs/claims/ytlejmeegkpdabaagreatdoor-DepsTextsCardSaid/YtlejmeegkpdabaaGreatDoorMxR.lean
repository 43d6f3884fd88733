/- The proof of a statement, some of its texts joined in build order: part R. -/
import Derived.Test.YtlejmeegkpdabaaGreatDoorMxI
import Derived.RegionIn
set_option maxHeartbeats 8000000
set_option maxRecDepth 100000
namespace Go.Proofs.YtlejmeegkpdabaaGreatDoor
open Go Go.RowKit Go.Maps Go.Shelf
theorem oI{v:Value}{b b':Bool}(h:b=b'):Ending.returned (.tuple #[v, .bool b])= .returned (.tuple #[v, .bool b']):=by rw[h]
def ER(s:Sg)(a b:List Int)(w:World)(iv kv:Value)(wr:World):Prop:=
 ∃(i k n:Nat) (B:Bd),iv= .int .i64 i∧kv= .int .i64 k∧MRel s a b k i B∧n≤k∧BdMap w wr w.heap.size n B∧Below w.heap.size w wr
theorem ES{S1 S2 S3:Nat→Prop}(a1 a2 a3:Option Addr)(c1 c2 c3:Nat)(s:Sg)(a b:List Int)(w:World)(h1:Sign S1 w a1 c1 s)(h2:Ints S2 w a2 c2 a)(h3:Ints S3 w a3 c3 b)(hok:aH s=true)(ha:W1 s a)(hb:W1 s b)(la:a.length≤1000)(lb:b.length≤1000):
  Calls Tryz.prog 141 #[.slice a1 s.length c1, .slice a2 a.length c2, .slice a3 b.length c3] w fun e w'=>∃v,e= .returned (.tuple #[v, .bool (fb s a b)])∧Below w.heap.size w w':=by
 have m2:=h2.le
 have m3:=h3.le
 have bp:= @run_makeMap Tryz.prog
 have ay:=Lib.hid (MRel.start ha hb)
 have Y:=Lib.hid hok
 have al:=Lib.hid h1.lt
 have ao:=Lib.hid h2.lt
 have E:=Lib.hid h3.lt
 clear ha hb hok h1 h2 h3
 go_enter Tryz.func141,Tryz.ntmps141
 go_wp2_with fail
 go_loopw [9,19] (fun iv kv wr=>ER s a b w iv kv wr) (fun iv kv _=>a.length-(intOf kv).toNat)
 case atStart=>exact⟨0,0,0,_,rfl,rfl,ay.out,Nat.le_refl _,BdMap.made _ _,an _ _⟩
 case round=>
  obtain⟨i,k,n,B,rfl,rfl,C,hn,M,p⟩:=hrel
  by_cases W:k<a.length
  ·obtain⟨hi,r,hr,T⟩:=C.part W
   obtain⟨ba,oa,rfl,-,q1,r1⟩:=(ao.out.below p).int k W
   obtain⟨bb,ob,rfl,bm,q2,-⟩:=(E.out.below p).int i hi
   by_cases c:a[k]<0
   ·have J:=fun v=>C.var_no (u:=v) W c hr
    have F:=C.var W c hr
    obtain⟨e1,e2,-,-,e5,e6,e7⟩:=xQ hi hr
    obtain⟨u,hu⟩:∃u,dM s (b.drop i)=u:=⟨_,rfl⟩
    obtain⟨x,hx⟩:∃x,a[k]=x:=⟨_,rfl⟩
    obtain⟨I,V⟩:∃I,b.length-r.length=I:=⟨_,rfl⟩
    have D:=ti a1 (some ⟨bb,ob,none⟩) c1 c3 s b i r wr (al.out.below p) (E.out.below p) Y.out hr
    have H:Ints (fun x=>x<w.heap.size) w (some ⟨bb,ob+i,none⟩) (I-i) u:=by
     rw[←hu,e1,V]
     exact(Ints.part E.out i I (I-i) (by omega) (by omega) (Nat.le_refl _) (by have:=E.out.cap;omega)).weak (fun x hx=>hx.2)
    rw[V]at D e2 e6 e7 F
    rw[hu]at J F e5 e6
    rw[hx]at q1 r1 c J F
    have aq:I≤c3:=by have:=E.out.cap;omega
    have o:=Lib.hid D
    have bl:=Lib.hid C
    have q:=Lib.hid J
    have l:=Lib.hid F
    have h:=Lib.hid H
    have f:=Lib.hid p
    have t:=Lib.hid M
    have Q:=Lib.hid e6
    have L:=Lib.hid r1
    have a4:I≤b.length:=by omega
    have au:=M.lt
    clear D C J F H hr hx hu e1 e6 e5 T V r1
    cases g:B x with
    |none=>
     have hl:=t.out.look_none x L.out g
     have G:=Lib.hid (l.out (.inl g))
     clear l q p M g
     obtain⟨w',n',m,U,R,hg,-⟩:=t.out.store (by unfold maxLen;omega) x L.out h.out
     rw[Q.out]at m
     have Z:=m.out
     go_wp2_with (go_at_call 186;refine o.out.mono ?_;rintro e w9 ⟨rfl,rfl⟩)
     go_roundw
     case rel=>exact⟨I,k+1,n',_,rfl,by go_num,G.out,by have:=U.out;omega,R.out,f.out.grown hg.out f.out.size (fun j e=>by injection e with e;omega)⟩
     case measure=>simp[intOf];omega
    |some v=>
     obtain⟨av,cv,hl,S⟩:=t.out.look_some x L.out g
     have O:=sS av (some ⟨bb,ob+i,none⟩) cv (I-i) v u wr (S.below p) (h.out.below p)
     rw[Q.out]at O
     by_cases A:v=u
     ·rw[decide_eq_true A]at O
      have G:=Lib.hid (l.out (.inr (by rw[g,A])))
      have ad:RowKit.Hid ((B x).isSome=true):=Lib.hid (by rw[g];rfl)
      have P:=Lib.hid O
      clear l q p M g A O S
      go_wp2_with (first|(go_at_call 186;refine o.out.mono ?_;rintro e w9 ⟨rfl,rfl⟩)|(go_at_call 90;refine P.out.mono ?_;rintro e w9 ⟨rfl,K⟩;obtain⟨w',n',m,U,R,hg,-⟩:=(t.out.below (K.below wr.heap.size) au).store (by unfold maxLen;omega) x L.out h.out;rw[Q.out]at m;have Z:=m.out))
      go_roundw
      case rel=>
       have X:=aa f.out (K.below _)
       exact⟨I,k+1,n',_,rfl,by go_num,G.out,by have:=U.out;omega,R.out,X.grown hg.out X.size (fun j e=>by injection e with e;omega)⟩
      case measure=>simp[intOf];omega
     rw[decide_eq_false A]at O
     have z:=Lib.hid (q.out v g A)
     have P:=Lib.hid O
     clear l q p M g A O S
     go_wp2_with (first|(go_at_call 186;refine o.out.mono ?_;rintro e w9 ⟨rfl,rfl⟩)|(go_at_call 90;refine P.out.mono ?_;rintro e w9 ⟨rfl,K⟩))
     go_ret2
     exact⟨_,oI z.out.symm,aa f.out (K.below _)⟩
   by_cases N:b[i]=a[k]
   ·have ax:=Lib.hid (C.sym W hi c N)
    rw[N]at q2
    obtain⟨x,hx⟩:∃x,a[k]=x:=⟨_,rfl⟩
    rw[hx]at q1 q2 c
    have aN:(x != x)=false:=by simp
    have f:=Lib.hid p
    have t:=Lib.hid M
    clear C hr T N hx p M
    go_wp2_with fail
    go_roundw
    case rel=>exact⟨i+1,k+1,n,B,by go_num,by go_num,ax.out,by omega,t.out,f.out⟩
    case measure=>simp[intOf];omega
   have z:=Lib.hid (C.sym_no W hi c N)
   obtain⟨x,hx⟩:∃x,a[k]=x:=⟨_,rfl⟩
   obtain⟨y,hy⟩:∃y,b[i]=y:=⟨_,rfl⟩
   rw[hx]at q1 c N
   rw[hy]at q2 N
   have aN:(y != x)=true:=by simpa using N
   have f:=Lib.hid p
   clear C hr T N hx hy p M
   go_wp2_with fail
   go_ret2
   first|exact⟨_,oI z.out.symm,f.out⟩|exact⟨⟨_,oI z.out.symm⟩,f.out⟩
  obtain rfl:k=a.length:=by have:=C.ka;omega
  have z:=Lib.hid C.done
  clear C
  go_wp2_with fail
  go_ret2
  exact⟨_,oI z.out.symm,p⟩
theorem Az{S1 S2 S3:Nat→Prop}(a1 a2 a3:Option Addr)(c1 c2 c3:Nat)(s:Sg)(a b:List Int)(w:World)(h1:Sign S1 w a1 c1 s)(h2:Ints S2 w a2 c2 a)(h3:Ints S3 w a3 c3 b):
  Calls Tryz.prog 94 #[.slice a1 s.length c1, .slice a2 a.length c2, .slice a3 b.length c3] w fun e w'=>e= .returned (.bool (aw s a&&aw s b&&fb s a b))∧Below w.heap.size w w':=by
 have t:=h2.le
 have u:=h3.le
 have o:=fS a1 a2 c1 c2 s a w h1 h2
 have p:=fun W (h:Below w.heap.size w W)=>fS a1 a3 c1 c3 s b W (h1.below h) (h3.below h)
 have q:aw s a=true→aw s b=true→∀W,Below w.heap.size w W→_:=fun k n W h=>ES a1 a2 a3 c1 c2 c3 s a b W (h1.below h) (h2.below h) (h3.below h) (bj k).1 (fM k) (fM n) (by have:=(bj k).2.2.1;omega) (by have:=(bj n).2.2.1;omega)
 generalize aw s a=x at*
 generalize aw s b=y at*
 generalize fb s a b=z at*
 have g:=Lib.hid o
 have j:=Lib.hid p
 have m:=Lib.hid q
 clear o p q h1 h2 h3
 cases x with
 |false=>
  go_enter Tryz.func94,Tryz.ntmps94
  go_wp2_with (go_at_call 89;refine g.out.mono ?_;rintro e r ⟨rfl,c⟩)
  go_ret
  exact⟨rfl,c⟩
 |true=>
  cases y with
  |false=>
   go_enter Tryz.func94,Tryz.ntmps94
   go_wp2_with fail
   refine g.out.mono ?_
   rintro e r ⟨rfl,c⟩
   go_wp2_with fail
   refine(j.out _ c).mono ?_
   rintro e w2 ⟨rfl,f⟩
   go_wp2_with fail
   go_ret
   exact⟨rfl,aa c f⟩
  |true=>
   go_enter Tryz.func94,Tryz.ntmps94
   go_wp2_with fail
   refine g.out.mono ?_
   rintro e r ⟨rfl,c⟩
   go_wp2_with fail
   refine(j.out _ c).mono ?_
   rintro e w2 ⟨rfl,f⟩
   have i:=aa c f
   go_wp2_with fail
   refine(m.out trivial trivial _ i).mono ?_
   rintro e A ⟨v,rfl,l⟩
   go_wp2_with fail
   go_ret
   exact⟨by simp,aa i l⟩
attribute [local go_sem] Oper.semAt_some
theorem yF{s:Sg}{g:List (List Int)}:∀(p:List Stp) (l:List (List Int)),(∀y∈dt s g p l,y.2=0)→cD s g p l=(l++(dt s g p l).map Prod.fst,0)
 | [],l,_=>by simp[cD,dt]
 |x::p,l,h=>by
  rw[dt]at h⊢
  have hx:=h (bT s g l x) (by simp)
  rw[if_pos hx]at h⊢
  rw[cD,if_pos hx,yF p _ (fun y hy=>h y (by simp[hy]))]
  simp
theorem yE{s:Sg}{g:List (List Int)}:∀(p:List Stp) (l:List (List Int)) (pre:List (List Int×Int)) (x:List Int×Int),pre++[x]<+:dt s g p l→(∀y∈pre,y.2=0)→x.2≠0→cD s g p l=(l++pre.map Prod.fst,x.2)
 | [],l,pre,x,h,_,_=>by simp[dt]at h
 |z::p,l,[],x,h,_,hx=>by
  rw[dt,List.nil_append]at h
  have e:=(List.cons_prefix_cons.1 h).1
  rw[cD,←e,if_neg hx]
  simp
 |z::p,l,y::pre,x,h,b,hx=>by
  rw[dt,List.cons_append]at h
  obtain⟨e,a⟩:=List.cons_prefix_cons.1 h
  have hy:=b y (by simp)
  rw[←e,if_pos hy]at a
  rw[cD,←e,if_pos hy,yE p _ pre x a (fun w hw=>b w (by simp[hw])) hx]
  simp
theorem H6(n:Nat)(a1 a2 a3:Option Addr)(l1 l2 l3 c1 c2 c3:Nat)(w:World):
  CallsIn Fence.wide n Tryz.prog 227 #[.slice a1 l1 c1, .slice a2 l2 c2, .slice a3 l3 c3] w fun e w'=>e= .returned (.func (.func 237) #[] #[.pointer (some ⟨w.heap.size,0,none⟩), .pointer (some ⟨w.heap.size+1,0,none⟩), .pointer (some ⟨w.heap.size+1+1,0,none⟩)])∧
   w'=((w.alloc (.cells #[.slice a1 l1 c1] 23)).alloc (.cells #[.slice a2 l2 c2] 163)).alloc (.cells #[.slice a3 l3 c3] 44):=by
 have a:Fence.wide.round=none:=rfl
 refine callsIn_of_wp Tryz.func227 rfl trivial ?_ a
 simp only[Tryz.ntmps227,List.size_toArray,List.length_cons,List.length_nil,Nat.reduceAdd,Nat.reduceSub,Array.replicate_succ,Array.replicate_zero,List.push_toArray,List.append_toArray,List.nil_append,List.cons_append]
 gi_wp2
 go_ret
 exact⟨rfl,rfl⟩
theorem H7(n sb gb pb B0:Nat)(a1 ag ap:Option Addr)(c1 cg cp:Nat)(s:Sg)(g:List (List Int))(p:List Stp)(w:World)(hg:∀t∈g,aw s t=true)(hp:a8 g.length 0 p=true)(hlp:p.length≤60)(hrow:iN B0 w)
  (hcs:w.cell? ⟨sb,0,none⟩=some (.slice a1 s.length c1)) (hss:Safe B0 w sb) (hcg:w.cell? ⟨gb,0,none⟩=some (.slice ag g.length cg)) (hsg:Safe B0 w gb) (hcp:w.cell? ⟨pb,0,none⟩=some (.slice ap p.length cp)) (hsp:Safe B0 w pb)
  (hsig:Sign (Safe B0 w) w a1 c1 s) (hgiv:Terms (Safe B0 w) w ag cg g) (hprf:Steps (Safe B0 w) w ap cp p):
  sZ Fence.wide n Tryz.prog 237 #[.pointer (some ⟨sb,0,none⟩), .pointer (some ⟨gb,0,none⟩), .pointer (some ⟨pb,0,none⟩)] Td.enc kT (Kp B0) (Rw B0) (fun xs=>xs.map Td.pt=dt s g p []) (fun pre=>pre.map Td.pt<+:dt s g p []) p.length w:=fun l J f W B z _ C q=>by
 have a:=Leaves.of_below hrow.1 B
 exact H4 n l sb gb pb B0 a1 ag ap c1 cg cp s g p J f W (fun pre A c b h hg hr=>z pre A c b h hg (fun r e=>by obtain⟨i,o,j,k⟩:=hr r e;exact⟨i,o,j, .inr k⟩))
  (fun m pre x A u v y=>YieldAt.wideAny m (C pre x A u v y)) hg hp hlp (a.lt hrow) (a.cell hss hcs) (a.safe hss) (a.cell hsg hcg) (a.safe hsg) (a.cell hsp hcp) (a.sl hsig) (a.sl hgiv) (a.sl hprf) q
def mi(w:World)(R0 R1 B0:Nat)(pre:List Td)(W:World):Prop:=
 (∀x∈pre,x.e=0)∧TBox W B0 B0 (pre.map Td.t)∧Below w.heap.size w W∧Boxed W R0 163 (.slice none 0 0)∧Boxed W R1 28 (.int .i64 0)
def oK(w:World)(R0 R1 B0:Nat)(pre:List Td)(W:World):Prop:=
 ∃pre0 x v,pre=pre0++[x]∧(∀y∈pre0,y.e=0)∧x.e≠0∧Below w.heap.size w W∧Boxed W R0 163 v∧Boxed W R1 28 (.int .i64 x.e)∧Boxed W B0 163 v∧OwnTT W B0 v (pre0.map Td.t)
theorem wJ{B0:Nat}{W W':World}{row:Option Nat}{d:Nat}(hg:W.grownBy W' row)(hr:∀r,row=some r→d≤r∧∃o:Obj,W.heap[r]?=some o∧(o.isCells=false∨Rw B0 W r o)):
  IntKeep W W'∧(∀b,b<d→b<W.heap.size→W'.heap[b]?=W.heap[b]?)∧(CellsAt W B0→W'.heap[B0]?=W.heap[B0]?)∧(∀k,ck B0 W=some k→CellsAt W k→W'.heap[k]?=W.heap[k]?):=by
 refine⟨.of_grown hg (fun r e m=> ?_),fun b w n=>hg.block b n (fun e=>by have:=(hr b e.symm).1;omega),fun h=>hg.block B0 h.lt (fun e=> ?_),fun k s h=>hg.block k h.lt (fun e=> ?_)⟩
 ·obtain⟨-,o,c,a⟩:=hr r e
  obtain⟨v,m⟩:=m
  rw[m]at c
  cases c
  rcases a with a|⟨f,t,i,j,-⟩
  ·cases a
  simp only[Obj.cells.injEq]at i;exact j i.2.1.symm
 ·obtain⟨-,o,c,a⟩:=hr B0 e.symm
  obtain⟨u,g,l⟩:=h
  rw[c]at g
  cases g
  rcases a with a|⟨f,t,i,j,p,-⟩
  ·rw[l]at a;cases a
  exact p rfl
 obtain⟨-,o,c,a⟩:=hr k e.symm
 obtain⟨u,g,l⟩:=h
 rw[c]at g
 cases g
 rcases a with a|⟨f,t,i,j,p,q⟩
 ·rw[l]at a;cases a
 exact q s.symm
theorem yB{w:World}{R0 R1 B0 d:Nat}(hB:w.heap.size≤d)(h0:R0<d)(h1:R1<d):OwnRows (Rw B0) d (mi w R0 R1 B0):=by
 rintro o W q p ⟨k,c,f,g,h⟩ hg hr
 obtain⟨l,i,m,n⟩:=wJ hg hr
 refine⟨k,c.keep (m ?_) (fun r e=>n r e ?_) l,f.grown hg f.size (fun j e=>Nat.le_trans hB (hr j e).1),(i R0 h0 g.lt).trans g,(i R1 h1 h.lt).trans h⟩
 ·obtain⟨a,b⟩:=c.boxCells;exact⟨_,b,rfl⟩
 obtain⟨-,-,a,b⟩:=c.rowCells r e;exact⟨_,b,rfl⟩
theorem GZ{w:World}{R0 R1 B0 d:Nat}(hB:w.heap.size≤d)(h0:R0<d)(h1:R1<d):OwnRows (Rw B0) d (oK w R0 R1 B0):=by
 rintro A W C B ⟨a,x,v,q,r,s,g,h,i,f,l⟩ hg hr
 obtain⟨u,m,y,z⟩:=wJ hg hr
 have o:TBox W B0 B0 (a.map Td.t):=⟨v,f,l⟩
 have b:∀k,v.ownBlock=some k→ck B0 W=some k:=fun k c=>by rw[kC f];exact c
 exact⟨a,x,v,q,r,s,g.grown hg g.size (fun j e=>Nat.le_trans hB (hr j e).1),(m R0 h0 h.lt).trans h,(m R1 h1 i.lt).trans i,(y ⟨_,f,rfl⟩).trans f,
  OwnTT.keep l (fun k c=>z k (b k c) (by obtain⟨-,-,n,p⟩:=o.rowCells k (b k c);exact⟨_,p,rfl⟩)) u⟩
theorem a24(w:World):(isAgg 163).run Tryz.prog w= .ok false w:=by kernel_rfl
theorem G0{tmps:Array Value}{w:World}{b6 b7:Nat}{v e:Value}(h6:tmps.getD 6 undef= .pointer (some ⟨b6,0,none⟩))(h7:tmps.getD 7 undef= .pointer (some ⟨b7,0,none⟩))(c6:w.cell? ⟨b6,0,none⟩=some v)(c7:w.cell? ⟨b7,0,none⟩=some e):
  (results Tryz.f213 tmps).run Tryz.prog w= .ok (.tuple #[v,e]) w:=by
 have a:tmps[6]?.getD undef= .pointer (some ⟨b6,0,none⟩):=by simpa using h6
 have b:tmps[7]?.getD undef= .pointer (some ⟨b7,0,none⟩):=by simpa using h7
 simp[results,a,b,loadVar,go_sem,c6,c7]
def retTB(r:List (List Int)×Int)(w:World)(e:Ending)(w':World):Prop:=∃v,e= .returned (.tuple #[v, .int .i64 r.2])∧OwnTT w' w.heap.size v r.1∧Below w.heap.size w w'
theorem retTB.te{r:List (List Int)×Int}{w:World}{e:Ending}{w':World}(h:retTB r w e w'):rN r w e w':=by
 obtain⟨v,a,b,c⟩:=h
 exact⟨v,a,OwnL.weak b (fun _ _ _=>trivial),c⟩
theorem yD{w W:World}{D:Nat}{v:Value}{L:List (List Int)}{e:Int}{tmps:Array Value}(hD:w.heap.size+1<D)(hK:W.heap[D]?=some (.deferred (some [])))(e0:Boxed W w.heap.size 163 v)(e1:Boxed W (w.heap.size+1) 28 (.int .i64 e))(ho:OwnTT W (w.heap.size+1+1) v L)(hB:Below w.heap.size w W)
  (h6:tmps.getD 6 undef= .pointer (some ⟨w.heap.size,0,none⟩)) (h7:tmps.getD 7 undef= .pointer (some ⟨w.heap.size+1,0,none⟩)):
  ∃x,(results Tryz.f213 tmps).run Tryz.prog (W.putObj D (.deferred none))= .ok x (W.putObj D (.deferred none))∧retTB (L,e) w (.returned x) (W.putObj D (.deferred none)):=by
 have hg:=grownBy_putObj' W D (.deferred none)
 refine⟨_,G0 h6 h7 (e0.kept hg (fun h=>by injection h with h;omega)).cell (e1.kept hg (fun h=>by injection h with h;omega)).cell,v,rfl,OwnL.baseMono (OwnTT.keep ho (fun k c=>World.putObj_heap_other (fun e=>by obtain⟨b,a⟩:=OwnL.rowCells ho k c;rw[e,hK]at a;cases a)) (.putObj hK rfl)) (by omega),?_⟩
 exact hB.trans (belowK_b (w:=w) (Nat.le_refl _) W D _ _ (by omega) hK rfl rfl)
def Ai(W:World)(tb:Nat)(x:Td):Prop:=W.heap[tb]?=some (.cells #[.slice x.ap x.t.length x.cp, .int .i64 x.e] 244 (0,0))
theorem Ez{S1 S2 S3:Nat→Prop}(a1 ag ap:Option Addr)(c1 cg cp:Nat)(s:Sg)(g:List (List Int))(p:List Stp)(w:World)(h1:Sign S1 w a1 c1 s)(h2:Terms S2 w ag cg g)(h3:Steps S3 w ap cp p)(hg:∀t∈g,aw s t=true)(hp:a8 g.length 0 p=true)(hlp:p.length≤60):
  Calls Tryz.prog 213 #[.slice a1 s.length c1, .slice ag g.length cg, .slice ap p.length cp] w (retTB (cD s g p []) w):=by
 have m1:=h1.le
 have m2:=h2.le
 have m3:=h3.le
 have cq:=Lib.hid h1.lt
 have cr:=Lib.hid h2.lt
 have ct:=Lib.hid h3.lt
 have cJ:=Lib.hid hg
 have cW:=Lib.hid hp
 clear h1 h2 h3 hg hp
 refine(callsIn_wide (n:=6)).1 ?_
 refine callsIn_of_wp_marks Tryz.func213 rfl trivial ?_ rfl
 simp only[Tryz.ntmps213,List.size_toArray,List.length_cons,List.length_nil,Nat.reduceAdd,Nat.reduceSub,Array.replicate_succ,Array.replicate_zero,List.push_toArray,List.append_toArray,List.nil_append,List.cons_append]
 gi_wp2_with fail
 refine⟨trivial,?_⟩
 gi_at_call 227
 refine(H6 _ _ _ _ _ _ _ _ _ _ _).mono ?_
 rintro e w' ⟨rfl,rfl⟩
 gi_wp2_with fail
 obtain⟨C,V⟩:∃C,(((((w.alloc (.cells #[.slice none 0 0] 163)).alloc (.cells #[.int .i64 0] 28)).alloc (.cells #[.slice none 0 0] 163)).alloc (.cells #[.slice a1 s.length c1] 23)).alloc (.cells #[.slice ag g.length cg] 163)).alloc (.cells #[.slice ap p.length cp] 44)=C:=⟨_,rfl⟩
 obtain⟨w2,ao⟩:∃w2,(w.alloc (.cells #[.slice none 0 0] 163)).alloc (.cells #[.int .i64 0] 28)=w2:=⟨_,rfl⟩
 have cd:w2.heap.size=w.heap.size+1+1:=by rw[←ao];simp
 have X:Below w.heap.size w w2:=by rw[←ao];exact dT _ _ _
 have bf:Boxed w2 w.heap.size 163 (.slice none 0 0):=by rw[←ao];exact(Boxed.new w 163 _).alloc _
 have bl:Boxed w2 (w.heap.size+1) 28 (.int .i64 0):=by
  rw[←ao]
  have:=Boxed.new (w.alloc (.cells #[.slice none 0 0] 163)) 28 (.int .i64 0)
  rw[World.size_alloc]at this;exact this
 have i:(((w2.alloc (.cells #[.slice none 0 0] 163)).alloc (.cells #[.slice a1 s.length c1] 23)).alloc (.cells #[.slice ag g.length cg] 163)).alloc (.cells #[.slice ap p.length cp] 44)=C:=by rw[←ao];exact V
 have ab:Below w2.heap.size w2 C:=by
  rw[←i]
  exact((((Below.refl _ w2).alloc (by simp) _).alloc (by simp<;>omega) _).alloc (by simp<;>omega) _).alloc (by simp<;>omega) _
 have av:Below w.heap.size w C:=aa X ab
 have ax:TBox C w2.heap.size w2.heap.size []:=by
  rw[←i]
  exact(TBox.new w2).below (jy _ _ _ _)
 have cB:C.cell? ⟨w2.heap.size,0,none⟩=some (.slice none 0 0):=by rw[←i];clear i V;go_simp
 have bp:C.cell? ⟨w2.heap.size+1,0,none⟩=some (.slice a1 s.length c1):=by rw[←i];clear i V;go_simp
 have bm:C.cell? ⟨w2.heap.size+1+1,0,none⟩=some (.slice ag g.length cg):=by rw[←i];clear i V;go_simp
 have bn:C.cell? ⟨w2.heap.size+1+1+1,0,none⟩=some (.slice ap p.length cp):=by rw[←i];clear i V;go_simp
 have c3:C.heap.size=w2.heap.size+1+1+1+1:=by rw[←i];simp
 have cc:ck w2.heap.size C=none:=by unfold ck;rw[cB];rfl
 have u:∀b,b≠w2.heap.size→CellsAt C b→Safe w2.heap.size C b:=fun b P Q=>⟨P,by rw[cc];simp,Q⟩
 have a2:Sign (Safe w2.heap.size C) C a1 c1 s:=(Sign.cellsAt (cq.out.below av)).weak (fun b P=>u b (by have:=P.1.2;omega) P.2)
 have aU:Terms (Safe w2.heap.size C) C ag cg g:=(Terms.cellsAt (cr.out.below av)).weak (fun b P=>u b (by have:=P.1.2;omega) P.2)
 have aW:Steps (Safe w2.heap.size C) C ap cp p:=(Sl.cellsAt (fun _ _ _ _ h=>h) (ct.out.below av)).weak (fun b P=>u b (by have:=P.1.2;omega) P.2)
 have a0:=H7 (6-1) (w2.heap.size+1) (w2.heap.size+1+1) (w2.heap.size+1+1+1) w2.heap.size a1 ag ap c1 cg cp s g p C cJ.out cW.out hlp ax.rowLt bp (u _ (by omega) (.of_cell bp)) bm (u _ (by omega) (.of_cell bm)) bn (u _ (by omega) (.of_cell bn)) a2 aU aW
 have ba:mi w w.heap.size (w.heap.size+1) w2.heap.size [] C:=⟨(fun x h=>by cases h),ax,av,(ab.block _ bf.lt).trans bf,(ab.block _ bl.lt).trans bl⟩
 rw[cd]at a0 ba c3
 have b3:=Lib.hid ba
 rw[V]
 clear ba ax a2 aU aW u cc bp bm bn cB av ab bf bl X V i ao cd
 refine Gh rfl (by omega) (gf:=237) (lb:= #[.pointer (some ⟨(w.heap.size+1+1)+1,0,none⟩), .pointer (some ⟨(w.heap.size+1+1)+1+1,0,none⟩), .pointer (some ⟨(w.heap.size+1+1)+1+1+1,0,none⟩)]) rfl trivial (enters_of Tryz.func237 (by kernel_rfl) rfl)
  a0 (fun W r o h=>by obtain⟨cs,t,rfl,-⟩:=h;rfl) (fun h k=>h.trans k) (fun W l o o' hl h Q _=>⟨Leaves.putObj (by omega) h Q,IntKeep.putObj h Q⟩) (Below.refl _ _) Td.size
  (mi w w.heap.size (w.heap.size+1) (w.heap.size+1+1))
  (fun c q W=>c= .ret∧oK w w.heap.size (w.heap.size+1) (w.heap.size+1+1) q W)
  (yB (by omega) (by omega) (by omega))
  (fun c q W W' row hs cN hr=>⟨hs.1,GZ (by omega) (by omega) (by omega) q W W' row hs.2 cN hr⟩)
  b3.out
  (fun x a' W=>∃F,Ai W F x∧kT x W∧a'={tmps:= #[.slice a1 s.length c1, .slice ag g.length cg, .slice ap p.length cp,undef,undef,undef, .pointer (some ⟨w.heap.size,0,none⟩), .pointer (some ⟨w.heap.size+1,0,none⟩), .pointer (some ⟨(w.heap.size+1+1),0,none⟩), .pointer (some ⟨F,0,none⟩),
     .slice a1 s.length c1, .slice ag g.length cg, .slice ap p.length cp, .func (.func 237) #[] #[.pointer (some ⟨(w.heap.size+1+1)+1,0,none⟩), .pointer (some ⟨(w.heap.size+1+1)+1+1,0,none⟩), .pointer (some ⟨(w.heap.size+1+1)+1+1+1,0,none⟩)], .agg #[.slice x.ap x.t.length x.cp, .int .i64 x.e],undef,undef,undef,undef,undef,undef,undef,undef,undef,undef,undef,undef],defers:=[]})
  (fun x a'=> ?hAx) ?assign ?body ?done ?stop
 case hAx=>
  rintro s' A A' row ⟨F,h2,h3,h4⟩ hg hr
  have Y:IntKeep A A':= .of_grown hg (fun r e hi=>by
   obtain⟨-,o,g2,g3⟩:=hr r e
   obtain⟨cs,hi⟩:=hi
   rw[hi]at g2;cases g2;cases g3)
  have c2:A'.heap[F]?=A.heap[F]?:=hg.block F (Array.getElem?_eq_some_iff.1 h2).1 (fun e=>by
   obtain⟨-,o,g2,g3⟩:=hr F e.symm
   rw[show A.heap[F]?=_ from h2]at g2;cases g2;cases g3)
  exact⟨F,c2.trans h2,⟨h3.1.intKeep Y,h3.2⟩,h4⟩
 case assign=>
  intro l q x W K hi hr a
  dsimp only[Td.enc]
  gi_wp2
  refine a _ _ ((KeepsOthers.alloc W _).from _) ⟨Leaves.of_below hi.2.1.lt (an W _), .of_below (an W _)⟩ (yB (d:=C.heap.size) (by omega) (by omega) (by omega) q W _ none hi (World.grownBy_alloc W _ none) (fun r e=>by cases e)) ⟨W.heap.size,World.alloc_heap_new W _,⟨hr.1.intKeep (.of_below (an W _)),hr.2⟩,?_⟩
  rfl
 case body=>
  rintro l q x a' W- -⟨i1,i2,i3,U,Z⟩ ⟨F,P,hR,rfl⟩ dy
  have c1:W.cell? ⟨F,1,none⟩=some (.int .i64 x.e):=by simp[World.cell?,show W.heap[F]?=_ from P]
  have c0:W.cell? ⟨F,0,none⟩=some (.slice x.ap x.t.length x.cp):=by simp[World.cell?,show W.heap[F]?=_ from P]
  obtain⟨L,hL⟩:∃L,q.map Td.t=L:=⟨_,rfl⟩
  rw[hL]at i2
  have b5:L.length=q.length:=by rw[←hL,List.length_map]
  have b6:=Lib.hid b5
  clear b5
  by_cases he:x.e=0
  ·have cH:(x.e != 0)=false:=by simpa using he
   obtain⟨vL,a',bW,W9,k1,k2,k3,k4,k5,k6,k7,k8,k9,ce,cf⟩:=i2.push (Nat.le_of_lt i2.lt) (.refl _ _) hR.1 (by rw[b6.out];omega)
   have I:∀{r:Nat} {t:TypeId} {v:Value},Boxed W r t v→t≠42→vL.ownBlock≠some r:=fun H ht e=>by
    obtain⟨-,-,a5,Q⟩:=i2.rowCells _ (k8.out.trans e)
    rw[show W.heap[_]?=_ from H]at Q
    simp only[Option.some.injEq,Obj.cells.injEq]at Q
    exact ht Q.2.1
   have ay:∀{r:Nat} {t:TypeId} {v:Value},Boxed W r t v→t≠42→r≠(w.heap.size+1+1)→Boxed (W9.setCell ⟨(w.heap.size+1+1),0,none⟩ (.slice a' (L.length+1) bW)) r t v:=fun H ht cU=>
    (k7.out.block _ (Nat.lt_of_lt_of_le H.lt k6.out.size) (fun e=>cU (by injection e))).trans ((k6.out.block _ H.lt (fun e=>I H ht e.symm)).trans H)
   have m:∀ac:Act,rK C.heap.size (Kp (w.heap.size+1+1)) (mi w w.heap.size (w.heap.size+1) (w.heap.size+1+1)) (fun c q W=>c= .ret∧oK w w.heap.size (w.heap.size+1) (w.heap.size+1+1) q W) (q++[x]) W .normal ac (W9.setCell ⟨(w.heap.size+1+1),0,none⟩ (.slice a' (L.length+1) bW)):=by
    intro ac
    refine⟨?_,⟨⟨Nat.le_trans k6.out.size k7.out.size,fun b X=> ?_,?_,fun _=>k5.out.rowLt⟩,ce.out⟩,?_,?_,?_,ay U (by decide) (by omega),ay Z (by decide) (by omega)⟩
    ·refine((KeepsOthers.of_grownBy k6.out (fun j o e ho=> ?_)).trans (KeepsOthers.setCell _ _ _)).from _
     obtain⟨-,-,a5,Q⟩:=i2.rowCells j (k8.out.trans e)
     rw[Q]at ho;cases ho;rfl
    ·exact(k7.out.block b (Nat.lt_of_lt_of_le X.2.2.lt k6.out.size) (fun e=>X.1 (by injection e))).trans (k6.out.block b X.2.2.lt (by rw[←k8.out];exact X.2.1))
    ·rw[k8.out];exact cf.out
    ·intro y hy
     rcases List.mem_append.1 hy with h|h
     ·exact i1 y h
     rw[List.mem_singleton]at h;rw[h];exact he
    ·rw[List.map_append,hL];exact k5.out
    exact(i3.grown k6.out i3.size (fun j e=>by have:=(i2.rowCells j (k8.out.trans e)).1;omega)).grown k7.out (Nat.le_trans i3.size k6.out.size) (fun j e=>by cases e;omega)
   have f:=Lib.hid m
   have k1:=k1.out
   have k2:=k2.out
   have k3:=k3.out
   have k4:=k4.out
   clear m ay I k5 k6 k7 k8 k9 ce cf i1 i2 i3 U Z P hL
   gi_wp2_with (gi_at_builtin;refine sI rfl (.tmp 21) (.tmp 24) 163 rfl rfl rfl k2 ?_)
   exact f.out _
  have cH:(x.e != 0)=true:=by simpa using he
  obtain⟨fo,T,B⟩:=i2
  obtain⟨N,O,bt,-⟩:=OwnL.sl B
  subst bt
  have cB:=T.cell
  have q0:=U.cell
  have q1:=Z.cell
  have f0:=U.frozen
  have f1:=Z.frozen
  have cP:¬F=w.heap.size:=fun e=>by
   rw[e]at P
   have h:=U
   unfold Boxed at h
   rw[show W.heap[w.heap.size]?=_ from P]at h
   simp at h
  have cT:¬F=w.heap.size+1:=fun e=>by
   rw[e]at P
   have h:=Z
   unfold Boxed at h
   rw[show W.heap[w.heap.size+1]?=_ from P]at h
   simp at h
  have hT:TBox W (w.heap.size+1+1) (w.heap.size+1+1) L:=⟨_,T,B⟩
  have I:∀{r:Nat} {t:TypeId} {v:Value},Boxed W r t v→t≠42→(Value.slice N L.length O).ownBlock≠some r:=fun H ht e=>by
   obtain⟨a5,Q⟩:=OwnL.rowCells B _ e
   rw[show W.heap[_]?=_ from H]at Q
   simp only[Option.some.injEq,Obj.cells.injEq]at Q
   exact ht Q.2.1
  obtain⟨E,aR⟩:∃E,W.drew=E:=⟨_,rfl⟩
  obtain⟨J,au⟩:∃J,E.setCell ⟨w.heap.size,0,none⟩ (.slice N L.length O)=J:=⟨_,rfl⟩
  have G:Below W.heap.size W E:=by rw[←aR];exact(Below.refl _ _).drew
  have S:E.grownBy J (some w.heap.size):=by rw[←au];exact grownBy_setCell' _ _ _
  have al:J.grownBy (J.setCell ⟨w.heap.size+1,0,none⟩ (.int .i64 x.e)) (some (w.heap.size+1)):=grownBy_setCell' _ _ _
  have d4:Boxed E w.heap.size 163 (.slice none 0 0):=(G.block _ U.lt).trans U
  have d5:Boxed E (w.heap.size+1) 28 (.int .i64 0):=(G.block _ Z.lt).trans Z
  have dB:Boxed E (w.heap.size+1+1) 163 (.slice N L.length O):=(G.block _ T.lt).trans T
  have dO:=OwnTT.keep B (fun k Y=>G.block k (OwnL.lt B k Y).2) (.of_below G)
  have e4:Boxed J w.heap.size 163 (.slice N L.length O):=by rw[←au];exact d4.set _
  have e5:Boxed J (w.heap.size+1) 28 (.int .i64 0):=d5.kept S (fun e=>by injection e with e;omega)
  have eB:Boxed J (w.heap.size+1+1) 163 (.slice N L.length O):=dB.kept S (fun e=>by injection e with e;omega)
  have eO:=OwnTT.keep dO (fun k Y=>S.block k (OwnL.lt dO k Y).2 (fun e=>I U (by decide) (by rw[Y,e]))) (.of_grown S (fun r e=>by cases e;exact jQ d4 (by decide)))
  have m:∀ac:Act,rK C.heap.size (Kp (w.heap.size+1+1)) (mi w w.heap.size (w.heap.size+1) (w.heap.size+1+1)) (fun c q W=>c= .ret∧oK w w.heap.size (w.heap.size+1) (w.heap.size+1+1) q W) (q++[x]) W .ret ac (J.setCell ⟨w.heap.size+1,0,none⟩ (.int .i64 x.e)):=by
   intro ac
   refine⟨?_,rfl,q,x,_,rfl,i1,he,?_,e4.kept al (fun e=>by injection e with e;omega),e5.set _,eB.kept al (fun e=>by injection e with e;omega),?_⟩
   ·refine((KeepsOthers.of_grownBy (row:=none) (Below.grow G) (fun j o e=>by cases e)).trans (KeepsOthers.trans ?_ (KeepsOthers.setCell _ _ _))).from _
    rw[←au];exact KeepsOthers.setCell _ _ _
   ·exact((i3.trans (G.mono i3.size)).grown S (Nat.le_trans i3.size G.size) (fun j e=>by cases e;omega)).grown al (Nat.le_trans (Nat.le_trans i3.size G.size) S.size) (fun j e=>by cases e;omega)
   rw[hL]
   exact OwnTT.keep eO (fun k Y=>al.block k (OwnL.lt eO k Y).2 (fun e=>I Z (by decide) (by rw[Y,e]))) (.of_grown al (fun r e=>by cases e;exact jQ e5 (by decide)))
  have f:=Lib.hid m
  have M:=Lib.hid au
  have cb:=Lib.hid aR
  have er:=dB.cell
  have e9:=d4.cell
  have ex:=d4.frozen
  have bU:E.cell? ⟨F,1,none⟩=some (.int .i64 x.e):=by rw[←aR];exact c1
  have en:=eB.cell
  have fn:=e5.cell
  have eA:=e5.frozen
  have em:J.cell? ⟨F,1,none⟩=some (.int .i64 x.e):=(World.cell?_of_block (w:=E) (S.block F (World.block_lt_of_cell? _ _ bU) (fun e=>cP (by injection e)))).trans bU
  clear m hT I G S al d4 d5 dB dO e4 e5 eB eO aR au T B i1 i3 U Z hL cT
  gi_wp2
  refine wpIn_region_any (by kernel_rfl) ?_
  show wpAnyIn _ _ _ _ _ _ _ _ _ (W.drew)
  rw[cb.out]
  refine mh 0 1 rfl rfl (by kernel_rfl) (fun K a=> ?_) (fun K a=> ?_)
  ·refine NextIn.value (v:=(.slice N L.length O)) (w':=E) rfl (fun c=>by simp) rfl (by go_simp) ?_
   refine a.out _ _ ?_
   clear a
   simp only[Act.put,List.setIfInBounds_toArray,List.set_cons_zero,List.set_cons_succ]
   refine mh 1 3 rfl rfl (by kernel_rfl) (fun K a=> ?_) (fun K a=> ?_)
   ·refine NextIn.value (v:= .pointer (some ⟨F,1,none⟩)) (w':=E) rfl (fun c=>by simp) rfl (by go_simp) ?_
    refine a.out _ _ ?_
    clear a
    simp only[Act.put,List.setIfInBounds_toArray,List.set_cons_zero,List.set_cons_succ]
    refine mh 2 3 rfl rfl (by kernel_rfl) (fun K a=> ?_) (fun K a=> ?_)
    ·refine NextIn.value (v:= .int .i64 x.e) (w':=E) rfl (fun c=>by simp) rfl (by go_simp) ?_
     refine a.out _ _ ?_
     clear a
     simp only[Act.put,List.setIfInBounds_toArray,List.set_cons_zero,List.set_cons_succ]
     refine fm 3 rfl (by kernel_rfl) (fun K a=> ?_)
     refine NextIn.skip (w':=E.setCell ⟨w.heap.size,0,none⟩ (.slice N L.length O)) rfl (fun c=>by simp) rfl (by go_simp) ?_
     rw[M.out]
     refine a.out _ _ ?_
     clear a
     simp only[Act.put]
     refine fm 4 rfl (by kernel_rfl) (fun K a=> ?_)
     refine NextIn.skip (w':=J.setCell ⟨w.heap.size+1,0,none⟩ (.int .i64 x.e)) rfl (fun c=>by simp) rfl (by go_simp) ?_
     refine a.out _ _ ?_
     clear a
     simp only[Act.put]
     refine wpAnyIn_done (by kernel_rfl) ?_ _
     gi_wp2_with fail
     exact f.out _
    refine NextIn.skip (w':=E.setCell ⟨w.heap.size,0,none⟩ (.slice N L.length O)) rfl (fun c=>by simp) rfl (by go_simp) ?_
    rw[M.out]
    refine a.out _ _ ?_
    clear a
    simp only[Act.put]
    refine fm 2 rfl (by kernel_rfl) (fun K a=> ?_)
    refine NextIn.value (v:= .int .i64 x.e) (w':=J) rfl (fun c=>by simp) rfl (by go_simp) ?_
    refine a.out _ _ ?_
    clear a
    simp only[Act.put,List.setIfInBounds_toArray,List.set_cons_zero,List.set_cons_succ]
    refine fm 4 rfl (by kernel_rfl) (fun K a=> ?_)
    refine NextIn.skip (w':=J.setCell ⟨w.heap.size+1,0,none⟩ (.int .i64 x.e)) rfl (fun c=>by simp) rfl (by go_simp) ?_
    refine a.out _ _ ?_
    clear a
    simp only[Act.put]
    refine wpAnyIn_done (by kernel_rfl) ?_ _
    gi_wp2_with fail
    exact f.out _
   refine NextIn.skip (w':=E.setCell ⟨w.heap.size,0,none⟩ (.slice N L.length O)) rfl (fun c=>by simp) rfl (by go_simp) ?_
   rw[M.out]
   refine a.out _ _ ?_
   clear a
   simp only[Act.put]
   refine fm 1 rfl (by kernel_rfl) (fun K a=> ?_)
   refine NextIn.value (v:= .pointer (some ⟨F,1,none⟩)) (w':=J) rfl (fun c=>by simp) rfl (by go_simp) ?_
   refine a.out _ _ ?_
   clear a
   simp only[Act.put,List.setIfInBounds_toArray,List.set_cons_zero,List.set_cons_succ]
   refine fm 2 rfl (by kernel_rfl) (fun K a=> ?_)
   refine NextIn.value (v:= .int .i64 x.e) (w':=J) rfl (fun c=>by simp) rfl (by go_simp) ?_
   refine a.out _ _ ?_
   clear a
   simp only[Act.put,List.setIfInBounds_toArray,List.set_cons_zero,List.set_cons_succ]
   refine fm 4 rfl (by kernel_rfl) (fun K a=> ?_)
   refine NextIn.skip (w':=J.setCell ⟨w.heap.size+1,0,none⟩ (.int .i64 x.e)) rfl (fun c=>by simp) rfl (by go_simp) ?_
   refine a.out _ _ ?_
   clear a
   simp only[Act.put]
   refine wpAnyIn_done (by kernel_rfl) ?_ _
   gi_wp2_with fail
   exact f.out _
  refine NextIn.value (v:= .pointer (some ⟨F,1,none⟩)) (w':=E) rfl (fun c=>by simp) rfl (by go_simp) ?_
  refine a.out _ _ ?_
  clear a
  simp only[Act.put,List.setIfInBounds_toArray,List.set_cons_zero,List.set_cons_succ]
  refine mh 0 2 rfl rfl (by kernel_rfl) (fun K a=> ?_) (fun K a=> ?_)
  ·refine NextIn.value (v:=(.slice N L.length O)) (w':=E) rfl (fun c=>by simp) rfl (by go_simp) ?_
   refine a.out _ _ ?_
   clear a
   simp only[Act.put,List.setIfInBounds_toArray,List.set_cons_zero,List.set_cons_succ]
   refine mh 2 3 rfl rfl (by kernel_rfl) (fun K a=> ?_) (fun K a=> ?_)
   ·refine NextIn.value (v:= .int .i64 x.e) (w':=E) rfl (fun c=>by simp) rfl (by go_simp) ?_
    refine a.out _ _ ?_
    clear a
    simp only[Act.put,List.setIfInBounds_toArray,List.set_cons_zero,List.set_cons_succ]
    refine fm 3 rfl (by kernel_rfl) (fun K a=> ?_)
    refine NextIn.skip (w':=E.setCell ⟨w.heap.size,0,none⟩ (.slice N L.length O)) rfl (fun c=>by simp) rfl (by go_simp) ?_
    rw[M.out]
    refine a.out _ _ ?_
    clear a
    simp only[Act.put]
    refine fm 4 rfl (by kernel_rfl) (fun K a=> ?_)
    refine NextIn.skip (w':=J.setCell ⟨w.heap.size+1,0,none⟩ (.int .i64 x.e)) rfl (fun c=>by simp) rfl (by go_simp) ?_
    refine a.out _ _ ?_
    clear a
    simp only[Act.put]
    refine wpAnyIn_done (by kernel_rfl) ?_ _
    gi_wp2_with fail
    exact f.out _
   refine NextIn.skip (w':=E.setCell ⟨w.heap.size,0,none⟩ (.slice N L.length O)) rfl (fun c=>by simp) rfl (by go_simp) ?_
   rw[M.out]
   refine a.out _ _ ?_
   clear a
   simp only[Act.put]
   refine fm 2 rfl (by kernel_rfl) (fun K a=> ?_)
   refine NextIn.value (v:= .int .i64 x.e) (w':=J) rfl (fun c=>by simp) rfl (by go_simp) ?_
   refine a.out _ _ ?_
   clear a
   simp only[Act.put,List.setIfInBounds_toArray,List.set_cons_zero,List.set_cons_succ]
   refine fm 4 rfl (by kernel_rfl) (fun K a=> ?_)
   refine NextIn.skip (w':=J.setCell ⟨w.heap.size+1,0,none⟩ (.int .i64 x.e)) rfl (fun c=>by simp) rfl (by go_simp) ?_
   refine a.out _ _ ?_
   clear a
   simp only[Act.put]
   refine wpAnyIn_done (by kernel_rfl) ?_ _
   gi_wp2_with fail
   exact f.out _
  refine NextIn.value (v:= .int .i64 x.e) (w':=E) rfl (fun c=>by simp) rfl (by go_simp) ?_
  refine a.out _ _ ?_
  clear a
  simp only[Act.put,List.setIfInBounds_toArray,List.set_cons_zero,List.set_cons_succ]
  refine fm 0 rfl (by kernel_rfl) (fun K a=> ?_)
  refine NextIn.value (v:=(.slice N L.length O)) (w':=E) rfl (fun c=>by simp) rfl (by go_simp) ?_
  refine a.out _ _ ?_
  clear a
  simp only[Act.put,List.setIfInBounds_toArray,List.set_cons_zero,List.set_cons_succ]
  refine fm 3 rfl (by kernel_rfl) (fun K a=> ?_)
  refine NextIn.skip (w':=E.setCell ⟨w.heap.size,0,none⟩ (.slice N L.length O)) rfl (fun c=>by simp) rfl (by go_simp) ?_
  rw[M.out]
  refine a.out _ _ ?_
  clear a
  simp only[Act.put]
  refine fm 4 rfl (by kernel_rfl) (fun K a=> ?_)
  refine NextIn.skip (w':=J.setCell ⟨w.heap.size+1,0,none⟩ (.int .i64 x.e)) rfl (fun c=>by simp) rfl (by go_simp) ?_
  refine a.out _ _ ?_
  clear a
  simp only[Act.put]
  refine wpAnyIn_done (by kernel_rfl) ?_ _
  gi_wp2_with fail
  exact f.out _
 case done=>
  rintro D xs W hD bu ⟨i1,⟨vL,T,B⟩,i3,U,Z⟩ a
  obtain⟨L,hL⟩:∃L,xs.map Td.t=L:=⟨_,rfl⟩
  rw[hL]at B
  have hE:(L,(0:Int))=cD s g p []:=by
   rw[yF p [] (fun y hy=> ?_),←bu]
   ·rw[List.nil_append,←hL,List.map_map];rfl
   rw[←bu]at hy
   obtain⟨x,hx,rfl⟩:=List.mem_map.1 hy
   exact i1 x hx
  obtain⟨N,O,bt,-⟩:=OwnL.sl B
  subst bt
  have cB:=T.cell
  have q0:=U.cell
  have q1:=Z.cell
  have f0:=U.frozen
  have f1:=Z.frozen
  obtain⟨W1,aO⟩:∃W1,W.setCell ⟨w.heap.size,0,none⟩ (.slice N L.length O)=W1:=⟨_,rfl⟩
  obtain⟨W2,aP⟩:∃W2,W1.setCell ⟨w.heap.size+1,0,none⟩ (.int .i64 0)=W2:=⟨_,rfl⟩
  have I:∀{r:Nat} {t:TypeId} {v:Value},Boxed W r t v→t≠42→(Value.slice N L.length O).ownBlock≠some r:=fun H ht e=>by
   obtain⟨a5,Q⟩:=OwnL.rowCells B _ e
   rw[show W.heap[_]?=_ from H]at Q
   simp only[Option.some.injEq,Obj.cells.injEq]at Q
   exact ht Q.2.1
  have R:W.grownBy W1 (some w.heap.size):=by rw[←aO];exact grownBy_setCell' _ _ _
  have aj:W1.grownBy W2 (some (w.heap.size+1)):=by rw[←aP];exact grownBy_setCell' _ _ _
  have d0:Boxed W1 w.heap.size 163 (.slice N L.length O):=by rw[←aO];exact U.set _
  have d1:Boxed W1 (w.heap.size+1) 28 (.int .i64 0):=Z.kept R (fun e=>by injection e with e;omega)
  have e0:Boxed W2 w.heap.size 163 (.slice N L.length O):=d0.kept aj (fun e=>by injection e with e;omega)
  have e1:Boxed W2 (w.heap.size+1) 28 (.int .i64 0):=by rw[←aP];exact d1.set _
  have dO:=OwnTT.keep B (fun k Y=>R.block k (OwnL.lt B k Y).2 (fun e=>I U (by decide) (by rw[Y,e]))) (.of_grown R (fun r e=>by cases e;exact jQ U (by decide)))
  have eO:=OwnTT.keep dO (fun k Y=>aj.block k (OwnL.lt dO k Y).2 (fun e=>I Z (by decide) (by rw[Y,e]))) (.of_grown aj (fun r e=>by cases e;exact jQ d1 (by decide)))
  have bb:W2.heap[D]?=some (.deferred (some [])):=by
   have hl:=(Array.getElem?_eq_some_iff.1 a).1
   exact(aj.block D (Nat.lt_of_lt_of_le hl R.size) (fun e=>by injection e with e;omega)).trans ((R.block D hl (fun e=>by injection e with e;omega)).trans a)
  have eB:Below w.heap.size w W2:=(i3.grown R i3.size (fun j e=>by cases e;omega)).grown aj (Nat.le_trans i3.size R.size) (fun j e=>by cases e;omega)
  have m:∀tmps:Array Value,tmps.getD 6 undef= .pointer (some ⟨w.heap.size,0,none⟩)→tmps.getD 7 undef= .pointer (some ⟨w.heap.size+1,0,none⟩)→_:=fun tmps h6 h7=>yD (tmps:=tmps) (by omega) bb e0 e1 eO eB h6 h7
  have f:=Lib.hid m
  have b4:=Lib.hid bb
  have b8:=Lib.hid aO
  have ca:=Lib.hid aP
  clear i1 i3 U Z B T bu hL I R aj d0 d1 e0 e1 dO eO bb eB m a aO aP
  gi_wp2
  rw[b8.out,ca.out]
  refine⟨by simp, .inl ⟨_,_,rfl,run_takeDeferred b4.out,?_⟩⟩
  rw[←hE]
  exact f.out _ rfl rfl
 case stop=>
  rintro D c q W hD b7 ⟨rfl,aN,x,v,rfl,j1,j2,j3,j4,j5,j6,j7⟩ a
  have hE:=yE p [] (aN.map Td.pt) (Td.pt x) (by simpa using b7) (fun y hy=>by obtain⟨z,hz,rfl⟩:=List.mem_map.1 hy;exact j1 z hz) j2
  have hL:aN.map Td.t=[]++(aN.map Td.pt).map Prod.fst:=by rw[List.nil_append,List.map_map];rfl
  rw[hL]at j7
  have cx:w.heap.size+1<D:=by omega
  have m:∀tmps:Array Value,tmps.getD 6 undef= .pointer (some ⟨w.heap.size,0,none⟩)→tmps.getD 7 undef= .pointer (some ⟨w.heap.size+1,0,none⟩)→_:=fun tmps h6 h7=>yD (tmps:=tmps) cx a j4 j5 j7 j3 h6 h7
  have cF:=Lib.hid a
  have f:=Lib.hid m
  clear m a j1 j2 j3 j4 j5 j6 j7 b7
  gi_wp2
  refine⟨by simp, .inl ⟨_,_,rfl,run_takeDeferred cF.out,?_⟩⟩
  rw[hE]
  exact f.out _ rfl rfl
theorem EA{S1 S2 S3:Nat→Prop}(a1 ag ap:Option Addr)(c1 cg cp:Nat)(s:Sg)(g:List (List Int))(p:List Stp)(w:World)(h1:Sign S1 w a1 c1 s)(h2:Terms S2 w ag cg g)(h3:Steps S3 w ap cp p)(hg:∀t∈g,aw s t=true)(hp:a8 g.length 0 p=true)(hlp:p.length≤60):
  Calls Tryz.prog 213 #[.slice a1 s.length c1, .slice ag g.length cg, .slice ap p.length cp] w (rN (cD s g p []) w):=
 (Ez a1 ag ap c1 cg cp s g p w h1 h2 h3 hg hp hlp).mono fun _ _ h=>h.te
def GO(r:List (List Int)×Int×Int)(w:World)(e:Ending)(w':World):Prop:=∃v,e= .returned (.tuple #[v, .int .i64 r.2.1, .int .i64 r.2.2])∧OwnTs (fun _=>True) w' w.heap.size v r.1∧Below w.heap.size w w'
def GP(r:List Int×Int)(w:World)(e:Ending)(w':World):Prop:=∃a c,e= .returned (.tuple #[.slice a r.1.length c, .int .i64 r.2])∧Ints (fun _=>True) w' a c r.1∧Below w.heap.size w w'
theorem tF{s:Sg}{g:List (List Int)}{p:List Stp}(h:iQ s g p=true):(∀t∈g,aw s t=true)∧a8 g.length 0 p=true∧1≤p.length∧p.length≤60:=by
 simp only[iQ,dE,Bool.and_eq_true,decide_eq_true_eq]at h
 exact⟨(uY h.1).2.2,h.2.1,h.2.2.1,h.2.2.2⟩
theorem AI{S1 S2 S3:Nat→Prop}(a1 ag ap:Option Addr)(c1 cg cp:Nat)(s:Sg)(g:List (List Int))(p:List Stp)(w:World)(h1:Sign S1 w a1 c1 s)(h2:Terms S2 w ag cg g)(h3:Steps S3 w ap cp p):
  Calls Tryz.prog 185 #[.slice a1 s.length c1, .slice ag g.length cg, .slice ap p.length cp] w (GO (jW s g p) w):=by
 have A:=h1.le
 have B:=h2.le
 have C:=h3.le
 have k:=Bj a1 ag ap c1 cg cp s g p w h1 h2 h3
 cases hx:iQ s g p with
 |false=>
  rw[hx]at k
  have b:=Lib.hid (show jW s g p=([],0,1)by rw[jW,hx];rfl)
  have c:=Lib.hid k
  clear k h1 h2 h3 hx
  go_enter Tryz.func185,Tryz.ntmps185
  go_wp2_with fail
  refine c.out.mono ?_
  rintro e u ⟨rfl,a⟩
  go_wp2_with fail
  go_ret3
  rw[b.out]
  exact⟨_,rfl, .nil _ _ _ _ _,a⟩
 |true=>
  rw[hx]at k
  obtain⟨q,r,-,t⟩:=tF hx
  have o:=fun W (n:Below w.heap.size w W)=>EA a1 ag ap c1 cg cp s g p W (h1.below n) (h2.below n) (h3.below n) q r t
  obtain⟨L,E,f⟩:∃L E,cD s g p []=(L,E):=⟨_,_,rfl⟩
  rw[f]at o
  have hr:jW s g p=if E=0 then(L,-1,0)else(L,(L.length:Int),E):=by rw[jW,if_pos hx,f]
  have c:=Lib.hid k
  have m:=Lib.hid o
  clear k o h1 h2 h3 hx q r t f
  by_cases l:E=0
  ·rw[if_pos l]at hr
   subst l
   have b:=Lib.hid hr
   clear hr
   go_enter Tryz.func185,Tryz.ntmps185
   go_wp2_with fail
   refine c.out.mono ?_
   rintro e u ⟨rfl,a⟩
   go_wp2_with fail
   refine(m.out _ a).mono ?_
   rintro e w2 ⟨v,rfl,j,h⟩
   have i:=Lib.hid (OwnL.baseMono (base':=w.heap.size) j a.size)
   clear j
   go_wp2_with fail
   go_ret3
   rw[b.out]
   exact⟨_,rfl,i.out,aa a h⟩
  rw[if_neg l]at hr
  have x:(E != 0)=true:=by simpa using l
  have b:=Lib.hid hr
  clear hr l
  go_enter Tryz.func185,Tryz.ntmps185
  go_wp2_with fail
  refine c.out.mono ?_
  rintro e u ⟨rfl,a⟩
  go_wp2_with fail
  refine(m.out _ a).mono ?_
  rintro e w2 ⟨v,rfl,j,h⟩
  obtain⟨y,z,rfl,-⟩:=OwnL.sl j
  have i:=Lib.hid (OwnL.baseMono (base':=w.heap.size) j a.size)
  clear j
  go_wp2_with fail
  go_ret3
  rw[b.out]
  exact⟨_,rfl,i.out,aa a h⟩
theorem AO{S1 S2 S3:Nat→Prop}(a1 ag ap:Option Addr)(c1 cg cp:Nat)(s:Sg)(g:List (List Int))(p:List Stp)(w:World)(h1:Sign S1 w a1 c1 s)(h2:Terms S2 w ag cg g)(h3:Steps S3 w ap cp p):
  Calls Tryz.prog 140 #[.slice a1 s.length c1, .slice ag g.length cg, .slice ap p.length cp] w (GP (fO s g p) w):=by
 have K:=h1.le
 have M:=h2.le
 have O:=h3.le
 have r:=AI a1 ag ap c1 cg cp s g p w h1 h2 h3
 obtain⟨L,N,E,b⟩:∃L N E,jW s g p=(L,N,E):=⟨_,_,_,rfl⟩
 have hS:(E≠0∧fO s g p=([],E))∨(E=0∧1≤L.length∧L.length≤60∧fO s g p=(L.getLastD [],0)):=by
  rw[jW]at b
  rw[fO]
  by_cases hx:iQ s g p=true
  ·rw[if_pos hx]at b⊢
   by_cases k:(cD s g p []).2=0
   ·rw[if_pos k]at b⊢
    cases b
    obtain⟨m,D,R,Q⟩:=tF hx
    have:=(yC m p [] (fun t h=>by cases h) D).2.1 k
    simp only[List.length_nil]at this
    exact .inr ⟨rfl,by omega,by omega,rfl⟩
   rw[if_neg k]at b⊢
   cases b
   exact .inl ⟨k,rfl⟩
  rw[if_neg hx]at b⊢
  cases b
  exact .inl ⟨by decide,rfl⟩
 rw[b]at r
 have j:=Lib.hid r
 clear r b h1 h2 h3
 rcases hS with⟨u,hS⟩|⟨rfl,A,B,hS⟩
 ·have C:(E != 0)=true:=by simpa using u
  have f:=Lib.hid hS
  clear hS u
  go_enter Tryz.func140,Tryz.ntmps140
  go_wp2_with fail
  refine j.out.mono ?_
  rintro e F ⟨v,rfl,l,i⟩
  clear l
  go_wp2_with fail
  go_ret2
  rw[f.out]
  exact⟨_,_,rfl,Sl.empty,i⟩
 have f:=Lib.hid hS
 have J:IntKind.i64.wrap ((L.length:Int)-1)=((L.length-1:Nat):Int):=by rw[IntWalk.i64_in _ (by omega)];omega
 clear hS
 go_enter Tryz.func140,Tryz.ntmps140
 go_wp2_with fail
 refine j.out.mono ?_
 rintro e F ⟨v,rfl,l,i⟩
 obtain⟨a,c,rfl,x⟩:=OwnL.sl l
 obtain⟨H,P,G,I,rfl,-,m,hA⟩:=x.sub (L.length-1) (by simp only;omega)
 dsimp only at m hA
 have y:L[L.length-1]=L.getLastD []:=by
  rw[List.getLastD_eq_getLast?,List.getLast?_eq_getElem?,List.getElem?_eq_getElem (by omega)];rfl
 obtain⟨z,q⟩:∃z,L.getLastD []=z:=⟨_,rfl⟩
 rw[y,q]at m hA
 have hS:=f.out
 rw[q]at hS
 have o:=Lib.hid hS
 have n:=Lib.hid hA.any
 clear l x hA y hS f q
 go_wp2_with fail
 all_goals go_ret2
 all_goals rw[o.out]
 all_goals exact⟨_,_,rfl,n.out,i⟩
end Go.Proofs.YtlejmeegkpdabaaGreatDoor
