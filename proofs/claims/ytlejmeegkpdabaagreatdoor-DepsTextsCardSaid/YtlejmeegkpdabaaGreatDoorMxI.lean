/- The proof of a statement, some of its texts joined in build order: part I. -/
import Derived.Shelf.Abstract
import Derived.Shelf.RegionOpen
import Derived.OwnWalkIn
import Derived.TacticsInMore
import Derived.LoopNIn
import Derived.LoopIn
import Derived.Test.YtlejmeegkpdabaaGreatDoorMxS
import Derived.Test.YtlejmeegkpdabaaGreatDoorMxK9
set_option maxHeartbeats 8000000
set_option maxRecDepth 100000
namespace Go.Proofs.YtlejmeegkpdabaaGreatDoor
open Go Go.RowKit Go.Shelf Go.Maps
attribute [local go_sem] Oper.semAt_some
attribute [local go_sem] Oper.semAt_some
theorem RoundIn.wideAny{m m':Nat}{P:Program}{l:Nat}{f:FuncId}{tmps:Array Value}{assign body:Code}{w:World}{R:Ending→World→Prop}
  (h:RoundIn Fence.wide m P l f tmps assign body w R):RoundIn Fence.wide m' P l f tmps assign body w R:=⟨h.1,fun c a _=>h.2 c a (room_wide _)⟩
theorem YieldAt.wideAny{m:Nat}(m':Nat){P:Program}{l:Nat}{args:Array Value}{W:World}{R:Ending→World→Prop}(h:YieldAt Fence.wide m P l args W R):YieldAt Fence.wide m' P l args W R:=by
 obtain⟨f,c,a,b,hy,g⟩:=h
 exact⟨f,c,a,b,hy,RoundIn.wideAny g⟩
structure El where
 ap:Option Addr
 cp:Nat
 p:List Int
 au:Option Addr
 cu:Nat
 u:List Int
def El.enc(x:El):Array Value:= #[.slice x.ap x.p.length x.cp, .slice x.au x.u.length x.cu]
def El.pt(x:El):List Int×List Int:=(x.p,x.u)
attribute [local go_sem] Oper.semAt_some
theorem El.size(x:El):x.enc.size=2:=rfl
def Dl(w:World)(A B:List Int)(e:Ending)(w':World):Prop:=
 ∃a4 c4 a5 c5,e= .returned (.tuple #[.slice a4 A.length c4, .slice a5 B.length c5, .bool true])∧Ints (fun _=>True) w' a4 c4 A∧Ints (fun _=>True) w' a5 c5 B∧Below w.heap.size w w'
theorem Do{S1 S2:Nat→Prop}(a1 a2:Option Addr)(c1 c2:Nat)(s:Sg)(m A B:List Int)(w:World)(h1:Sign S1 w a1 c1 s)(h2:Ints S2 w a2 c2 m)(hm:aw s m=true)(hL:bd s m=[A,B])(h0:m.headD 0=0):
  Calls Tryz.prog 245 #[.slice a1 s.length c1, .slice a2 m.length c2] w (Dl w A B):=by
 have F:=h2.le
 have t:=(bj hm).2.1
 obtain⟨b,o,rfl,-,q,-⟩:=h2.int 0 (by omega)
 have hg:m[0]=m.headD 0:=by cases m with|nil=>simp at t|cons _ _=>rfl
 rw[hg,h0,Nat.add_zero]at q
 have g:=Af a1 (some ⟨b,o,none⟩) c1 c2 s m w h1 h2
 rw[tA hm,hL]at g
 have f:=Lib.hid g
 clear g h1 h2 hm hL h0 hg
 go_enter Tryz.func245,Tryz.ntmps245
 go_wp2_with fail
 refine f.out.mono ?_
 rintro e I ⟨v,rfl,n,r⟩
 obtain⟨a,c,rfl,k⟩:=n.sl
 obtain⟨z,G,x,D,rfl,-,p,hA⟩:=k.sub 0 (by simp)
 obtain⟨C,H,y,E,l,-,u,i⟩:=k.sub 1 (by simp)
 simp only[Option.some.injEq,Addr.mk.injEq,and_true]at l
 obtain⟨rfl,rfl⟩:=l
 simp only[List.getElem_cons_zero,List.getElem_cons_succ]at p u hA i
 rw[Nat.add_zero]at p
 have h:=Lib.hid hA.any
 have j:=Lib.hid i.any
 clear n k hA i f q
 go_wp2_with fail
 go_quiet (fail)
 all_goals go_wp2_with fail
 go_ret3
 exact⟨_,_,_,_,rfl,h.out.drewN _,j.out.drewN _,fW r _⟩
theorem Dm{S2:Nat→Prop}(v:Value)(a2:Option Addr)(c2:Nat)(m:List Int)(w:World)(h2:Ints S2 w a2 c2 m)(lm:1≤m.length)(h0:m.headD 0≠0):
  Calls Tryz.prog 245 #[v, .slice a2 m.length c2] w fun e w'=>e= .returned (.tuple #[.slice none 0 0, .slice none 0 0, .bool false])∧w=w':=by
 have c:=h2.le
 obtain⟨b,o,rfl,-,q,-⟩:=h2.int 0 (by omega)
 have hg:m[0]=m.headD 0:=by cases m with|nil=>simp at lm|cons _ _=>rfl
 rw[hg,Nat.add_zero]at q
 have a:(m.headD 0 != 0)=true:=by simpa using h0
 obtain⟨x,hx⟩:∃x,m.headD 0=x:=⟨_,rfl⟩
 rw[hx]at q a
 clear h2 hg h0 hx
 go_enter Tryz.func245,Tryz.ntmps245
 go_wp2_with fail
 go_ret3
 exact⟨rfl,rfl⟩
theorem Ar{S1 S2 S3 S4:Nat→Prop}(a1 a2 a3 a4:Option Addr)(c1 c2 c3 c4:Nat)(s:Sg)(a t b:List Int)(w:World)(h1:Sign S1 w a1 c1 s)(h2:Ints S2 w a2 c2 a)(h3:Ints S3 w a3 c3 t)(h4:Ints S4 w a4 c4 b)(ha:aw s a=true)(hb:aw s b=true):
  Calls Tryz.prog 246 #[.slice a1 s.length c1, .slice a2 a.length c2, .slice a3 t.length c3, .slice a4 b.length c4] w (retE (iL s a (dK b) t) w):=by
 have N:=h2.le
 have O:=h3.le
 have P:=h4.le
 have J:=A4 a4 c4 b w h4 (by have:=(bj hb).2.2.1;unfold dI;omega) (om hb) (rn hb)
 have I:=fun W (l:Below w.heap.size w W) T o p (M:Ints T W o p (dK b))=>HH a1 a2 o c1 c2 p s a (dK b) W (h1.below l) (h2.below l) M (bj ha).1 (fM ha) (kY (fM hb)) (l9 ha) (kX hb) (by have:=(bj ha).2.2.1;omega) (by rw[tz];have:=(bj hb).2.2.1;omega)
 have K:∀W,Below w.heap.size w W→T0 W a3 c3 t:=fun W hb=>(h3.below hb).lt.weak (fun _ h=>h.2)
 have k:=tz b
 have y:=Lib.hid I
 have z:=Lib.hid J
 have A:=Lib.hid K
 have H:=Lib.hid k
 clear I J K h1 h2 h3 h4 k ha hb
 go_enter Tryz.func246,Tryz.ntmps246
 go_wp2_with fail
 refine z.out.mono ?_
 rintro e R ⟨v,rfl,m,c⟩
 obtain⟨o,p,rfl,G⟩:=OwnI.ints m
 clear m
 go_wp2_with fail
 refine(y.out _ c _ _ _ G).mono ?_
 rintro e S ⟨V,Q,r,rfl,g,hf,x⟩
 clear G
 cases r with
 |false=>
  have f:=Lib.hid (sB (hf rfl) t)
  have i:=aa c g
  clear hf x c g
  go_wp2_with fail
  go_ret2
  exact⟨_,by rw[f.out];rfl,by rw[f.out];exact .nil _ _ _ _ _,i⟩
 |true=>
  obtain⟨B,θ,ρ,n,D,L,E,F⟩:=x rfl
  have f:=Lib.hid (sC E t)
  have C:=EO F D (A.out _ c)
  have i:=aa c g
  have j:=Lib.hid C
  clear hf x c g C D L E F
  go_wp2_with fail
  refine j.out.mono ?_
  rintro e U ⟨v,rfl,m,q⟩
  have u:=Lib.hid (OwnL.baseMono (base':=w.heap.size) m i.size)
  clear m j
  go_wp2_with fail
  go_ret2
  exact⟨_,by rw[f.out];rfl,by rw[f.out];exact u.out,aa i q⟩
theorem Aq{S1 S2 S3:Nat→Prop}(a1 a2 a3:Option Addr)(c1 c2 c3:Nat)(s:Sg)(m n:List Int)(w:World)(h1:Sign S1 w a1 c1 s)(h2:Ints S2 w a2 c2 m)(h3:Ints S3 w a3 c3 n):
  Calls Tryz.prog 241 #[.slice a1 s.length c1, .slice a2 m.length c2, .slice a3 n.length c3] w (retE (dj s m n) w):=by
 have Q:=h2.le
 have R:=h3.le
 have G:=fS a1 a2 c1 c2 s m w h1 h2
 have H:=fun W (g:Below w.heap.size w W)=>fS a1 a3 c1 c3 s n W (h1.below g) (h3.below g)
 obtain⟨x,hx⟩:∃x,aw s m=x:=⟨_,rfl⟩
 obtain⟨y,hy⟩:∃x,aw s n=x:=⟨_,rfl⟩
 rw[hx]at G
 rw[hy]at H
 have h:=Lib.hid G
 have j:=Lib.hid H
 clear G H
 cases x with
 |false=>
  have c:=Lib.hid (show dj s m n=([],1)by unfold dj;rw[if_neg (by rw[hx];simp)])
  clear hx hy h1 h2 h3
  go_enter Tryz.func241,Tryz.ntmps241
  go_wp2_with (go_at_call 89;refine h.out.mono ?_;rintro e I ⟨rfl,a⟩)
  go_ret2
  exact⟨_,by rw[c.out];rfl,by rw[c.out];exact .nil _ _ _ _ _,a⟩
 |true=>
 cases y with
 |false=>
  have c:=Lib.hid (show dj s m n=([],1)by unfold dj;rw[if_neg (by rw[hy];simp)])
  clear hx hy h1 h2 h3
  go_enter Tryz.func241,Tryz.ntmps241
  go_wp2_with fail
  refine h.out.mono ?_
  rintro e I ⟨rfl,a⟩
  go_wp2_with fail
  refine(j.out _ a).mono ?_
  rintro e w2 ⟨rfl,b⟩
  go_wp2_with fail
  go_ret2
  exact⟨_,by rw[c.out];rfl,by rw[c.out];exact .nil _ _ _ _ _,aa a b⟩
 |true=>
  by_cases k:m.headD 0=0
  ·obtain⟨A,B,J,K,F,M⟩:=qz hx k
   have c:=Lib.hid (kn hx hy K (fM F))
   have p:=fun W (g:Below w.heap.size w W)=>Do a1 a2 c1 c2 s m A B W (h1.below g) (h2.below g) hx J k
   have l:=fun W (g:Below w.heap.size w W) r u t z (hA:Ints (fun _=>True) W r u A) (q:Ints (fun _=>True) W t z B)=>Ar a1 r t a3 c1 u z c3 s A B n W (h1.below g) hA q (h3.below g) F hy
   have i:=Lib.hid p
   have C:=Lib.hid l
   clear p l hx hy h1 h2 h3 J K F M k
   go_enter Tryz.func241,Tryz.ntmps241
   go_wp2_with fail
   refine h.out.mono ?_
   rintro e I ⟨rfl,a⟩
   go_wp2_with fail
   refine(j.out _ a).mono ?_
   rintro e w2 ⟨rfl,b⟩
   have b:=aa a b
   clear a
   go_wp2_with fail
   refine(i.out _ b).mono ?_
   rintro e N ⟨r,u,t,z,rfl,hA,q,f⟩
   have f:=aa b f
   clear b
   have l:=C.out _ f _ _ _ _ hA q
   have o:=Lib.hid l
   have O:=hA.le
   have P:=q.le
   clear l hA q
   go_wp2_with fail
   refine o.out.mono ?_
   rintro e S ⟨v,rfl,L,D⟩
   have E:=Lib.hid (OwnL.baseMono (base':=w.heap.size) L f.size)
   clear L o
   go_wp2_with fail
   go_ret2
   exact⟨_,by rw[c.out];rfl,by rw[c.out];exact E.out,aa f D⟩
  have c:=Lib.hid (uf hx hy k)
  have p:=fun W (g:Below w.heap.size w W)=>Dm (.slice a1 s.length c1) a2 c2 m W (h2.below g) (bj hx).2.1 k
  have i:=Lib.hid p
  clear p hx hy h1 h2 h3 k
  go_enter Tryz.func241,Tryz.ntmps241
  go_wp2_with fail
  refine h.out.mono ?_
  rintro e I ⟨rfl,a⟩
  go_wp2_with fail
  refine(j.out _ a).mono ?_
  rintro e w2 ⟨rfl,b⟩
  have b:=aa a b
  clear a
  go_wp2_with fail
  refine(i.out _ b).mono ?_
  rintro e N ⟨rfl,rfl⟩
  go_wp2_with fail
  go_ret2
  exact⟨_,by rw[c.out];rfl,by rw[c.out];exact .nil _ _ _ _ _,b⟩
def IntB(W:World)(b:Nat):Prop:=∃cs,W.heap[b]?=some (.cells cs 3 (0,0))
def IntKeep(W W':World):Prop:=∀b,IntB W b→W'.heap[b]?=W.heap[b]?
theorem IntB.lt{W:World}{b:Nat}(h:IntB W b):b<W.heap.size:=by obtain⟨a,h⟩:=h;exact(Array.getElem?_eq_some_iff.1 h).1
theorem IntKeep.refl(W:World):IntKeep W W:=fun _ _=>rfl
theorem IntKeep.b{W W':World}(h:IntKeep W W'){b:Nat}(hb:IntB W b):IntB W' b:=by obtain⟨a,c⟩:=hb;exact⟨a,(h b ⟨a,c⟩).trans c⟩
theorem IntKeep.trans{W W' W2:World}(h:IntKeep W W')(k:IntKeep W' W2):IntKeep W W2:=fun b a=>(k b (h.b a)).trans (h b a)
theorem IntKeep.of_below{W W':World}(h:Below W.heap.size W W'):IntKeep W W':=fun b a=>h.block b a.lt
theorem IntKeep.of_grown{W W':World}{row:Option Nat}(h:W.grownBy W' row)(hr:∀r,row=some r→¬IntB W r):IntKeep W W':=fun b a=>h.block b a.lt (fun e=>hr b e.symm a)
theorem IntKeep.putObj{W:World}{l:Nat}{o o':Obj}(hl:W.heap[l]?=some o)(hc:o.isCells=false):IntKeep W (W.putObj l o'):=fun b a=>World.putObj_heap_other (fun e=>by
 subst e;obtain⟨c,a⟩:=a;rw[hl]at a;cases a;cases hc)
theorem Ints.intKeep{W W':World}{a:Option Addr}{c:Nat}{l:List Int}(h:Ints (IntB W) W a c l)(k:IntKeep W W'):Ints (IntB W') W' a c l:=h.mono (fun _ _ f=>k.b f) (fun b f _=>k b f)
theorem OwnI.intsB{w:World}{base:Nat}{v:Value}{l:List Int}(h:OwnI w base v l):∃a c,v= .slice a l.length c∧Ints (IntB w) w a c l:=by
 obtain⟨a,c,m,g⟩:=h.ints
 refine⟨a,c,m,g.cap,g.max,g.nil,fun j=> ?_⟩
 obtain⟨b,k,ha,p,o,n⟩:=g.dat j
 subst ha
 obtain⟨i,f⟩:=OwnL.rowCells h b (by rw[m];rfl)
 exact⟨b,k,rfl,⟨i,f⟩,o,n⟩
abbrev OwnTT (W:World) (base:Nat) (v:Value) (l:List (List Int)):Prop:=OwnL (cI intE) (IntB W) W base 42 v l
theorem OwnTT.keep{W W':World}{base:Nat}{v:Value}{l:List (List Int)}(h:OwnTT W base v l)(hr:∀k,v.ownBlock=some k→W'.heap[k]?=W.heap[k]?)(hi:IntKeep W W'):OwnTT W' base v l:=
 OwnL.weak (OwnL.kept h hr (fun b a _=>hi b a.1)) (fun _ _ a=>hi.b a)
def TBox(W:World)(B base:Nat)(l:List (List Int)):Prop:=∃v,Boxed W B 163 v∧OwnTT W base v l
section
variable {W W':World}{B base:Nat}{l:List (List Int)}
theorem TBox.new(W:World):TBox (W.alloc (.cells #[.slice none 0 0] 163)) W.heap.size W.heap.size []:=⟨_,Boxed.new W _ _, .nil _ _ _ _ _⟩
theorem TBox.lt(h:TBox W B base l):B<W.heap.size:=by obtain⟨v,h,-⟩:=h;exact h.lt
theorem TBox.rowCells(h:TBox W B base l):∀r,ck B W=some r→base≤r∧r<W.heap.size∧∃cur,W.heap[r]?=some (.cells cur 42 (0,0)):=by
 obtain⟨v,b,a⟩:=h
 intro r hr
 rw[kC b]at hr
 exact⟨(OwnL.lt a r hr).1,(OwnL.lt a r hr).2,OwnL.rowCells a r hr⟩
theorem TBox.rowLt(h:TBox W B base l):iN B W:=⟨h.lt,fun r hr=>(h.rowCells r hr).2.1⟩
theorem TBox.boxCells(h:TBox W B base l):∃cur,W.heap[B]?=some (.cells cur 163 (0,0)):=by obtain⟨v,a,-⟩:=h;exact⟨_,a⟩
theorem jQ{W:World}{b:Nat}{t:TypeId}{cur:Array Value}(h:W.heap[b]?=some (.cells cur t (0,0)))(ht:t≠3):¬IntB W b:=fun⟨c,a⟩=>by
 rw[h]at a;simp only[Option.some.injEq,Obj.cells.injEq]at a;exact ht a.2.1
theorem TBox.keep(h:TBox W B base l)(hB:W'.heap[B]?=W.heap[B]?)(hr:∀r,ck B W=some r→W'.heap[r]?=W.heap[r]?)(hi:IntKeep W W'):TBox W' B base l:=by
 obtain⟨v,a,c⟩:=h
 refine⟨v,hB.trans a,OwnTT.keep c (fun k b=>hr k ?_) hi⟩
 rw[kC a];exact b
theorem TBox.below(h:TBox W B base l)(hb:Below W.heap.size W W'):TBox W' B base l:=h.keep (hb.block B h.lt) (fun r hr=>hb.block r (h.rowCells r hr).2.1) (.of_below hb)
theorem TBox.slice(h:TBox W B base l):∃a c,W.cell? ⟨B,0,none⟩=some (.slice a l.length c)∧Terms (fun _=>True) W a c l:=by
 obtain⟨v,g,f⟩:=h
 obtain⟨a,c,rfl,b⟩:=f.sl
 exact⟨a,c,g.cell,b.any⟩
theorem Eb:(Tryz.prog.info? 42).map (fun i=>(i.zero,i.size,i.bytes))=some (some (.slice none 0 0),1,24):=by kernel_rfl
theorem TBox.push(h:TBox W B base l)(hbs:base≤W.heap.size){W1:World}(hb1:Below W.heap.size W W1){a:Option Addr}{c:Nat}{x:List Int}(hx:Ints (IntB W1) W1 a c x)(hl:l.length≤1000):
  ∃v a' cap W2,RowKit.Hid (W1.cell? ⟨B,0,none⟩=some v)∧RowKit.Hid ((Builtin.append_ #[163,163] 163 #[v, .slice (some ⟨W1.heap.size,0,none⟩) 1 1]).run Tryz.prog (W1.alloc (.cells #[.slice a x.length c] 42))= .ok (.slice a' (l.length+1) cap) W2)∧
   RowKit.Hid (W2.cell? ⟨B,0,none⟩=some v)∧RowKit.Hid (W2.frozen? ⟨B,0,none⟩=false)∧RowKit.Hid (TBox (W2.setCell ⟨B,0,none⟩ (.slice a' (l.length+1) cap)) B base (l++[x]))∧
   RowKit.Hid (W1.grownBy W2 v.ownBlock)∧RowKit.Hid (W2.grownBy (W2.setCell ⟨B,0,none⟩ (.slice a' (l.length+1) cap)) (some B))∧RowKit.Hid (ck B W=v.ownBlock)∧RowKit.Hid (W2.heap[B]?=some (.cells #[v] 163 (0,0)))∧RowKit.Hid (IntKeep W1 (W2.setCell ⟨B,0,none⟩ (.slice a' (l.length+1) cap)))∧
   RowKit.Hid (ck B (W2.setCell ⟨B,0,none⟩ (.slice a' (l.length+1) cap))=v.ownBlock∨∃k,ck B (W2.setCell ⟨B,0,none⟩ (.slice a' (l.length+1) cap))=some k∧W1.heap.size≤k):=by
 have G:=h.below hb1
 obtain⟨v,y,w⟩:=G
 have hS:(cI intE).R (bZ (IntB W1) v) W1 [.slice a x.length c] x:=by
  refine⟨a,c,rfl,hx.weak (fun b u=>⟨u,fun e=> ?_⟩)⟩
  obtain⟨z,A⟩:=OwnL.rowCells w b e.symm
  exact jQ A (by decide) u
 obtain⟨v',W2,n,g,hg,p⟩:=w.push (P:=Tryz.prog) (t:=163) (ty:=163) Tryz.underlying163 Eb rfl hS (by omega) (by unfold aB;omega) (Nat.le_trans hbs hb1.size)
 obtain⟨a',cap,rfl,-⟩:=g.sl
 rw[List.length_append,List.length_singleton]at n g p
 have C:v.ownBlock≠some B:=w.notBox y (by decide)
 have f:Boxed W2 B 163 v:=y.kept hg (fun e=>C e.symm)
 have o:W2.grownBy (W2.setCell ⟨B,0,none⟩ (.slice a' (l.length+1) cap)) (some B):=grownBy_setCell' _ _ _
 have q:=g.notBox f (by decide)
 have i:IntKeep W1 W2:= .of_grown hg (fun r e=>by obtain⟨z,A⟩:=OwnL.rowCells w r e;exact jQ A (by decide))
 have j:IntKeep W2 (W2.setCell ⟨B,0,none⟩ (.slice a' (l.length+1) cap)):= .of_grown o (fun r e=>by cases e;exact jQ f (by decide))
 have m:OwnTT W2 base _ (l++[x]):=OwnL.weak g (fun b _ u=>i.b u)
 have D:=OwnTT.keep m (fun k F=>o.block k (OwnL.lt m k F).2 (fun e=>q (by rw[F,e]))) j
 have s:Boxed (W2.setCell ⟨B,0,none⟩ (.slice a' (l.length+1) cap)) B 163 (.slice a' (l.length+1) cap):=f.set _
 have E:ck B W=v.ownBlock:=by rw[←kC y];exact(jU (hb1.block B h.lt)).symm
 refine⟨v,a',cap,W2,Lib.hid y.cell,Lib.hid n,Lib.hid f.cell,Lib.hid f.frozen,Lib.hid ⟨_,s,D⟩,Lib.hid hg,Lib.hid o,Lib.hid E,Lib.hid f,Lib.hid (i.trans j),Lib.hid ?_⟩
 rw[kC s]
 exact p
end
theorem B6{S1 S2:Nat→Prop}(a1 ag:Option Addr)(c1 cg sb gb n:Nat)(B:Int)(s:Sg)(g:List (List Int))(w:World)(h1:Sign S1 w a1 c1 s)(h2:Terms S2 w ag cg g)(hsb:w.cell? ⟨sb,0,none⟩=some (.slice a1 s.length c1))(hgb:w.cell? ⟨gb,0,none⟩=some (.slice ag g.length cg))(hn:n<g.length)(hok:aw s g[n]=true):
  Calls Tryz.prog 238 #[.agg #[.int .i64 1, .int .i64 n, .int .i64 B], .pointer (some ⟨sb,0,none⟩), .pointer (some ⟨gb,0,none⟩)] w (retE (cz g[n],0) w):=by
 have O:=h2.le
 obtain⟨b,o,at_,F,rfl,-,q,z⟩:=h2.sub n hn
 obtain⟨W1,m⟩:∃W,w.alloc (.cells #[.int .i64 1, .int .i64 n, .int .i64 B] 72)=W:=⟨_,rfl⟩
 have j:Below w.heap.size w W1.drew:=by rw[←m];exact(an w _).drew
 have J:W1.cell? ⟨w.heap.size,1,none⟩=some (.int .i64 n):=by rw[←m];clear m;go_simp
 have u:W1.drew.cell? ⟨w.heap.size,1,none⟩=some (.int .i64 n):=J
 have x:=Ak a1 at_ c1 F s g[n] W1.drew (h1.below j) (z.below j)
 have M:=cell_later j hsb
 have L:=cell_later j hgb
 have E:=cell_later j q
 have N:=z.le
 obtain⟨t,D⟩:∃t,g[n]=t:=⟨_,rfl⟩
 rw[D]at x E hok N
 rw[D]
 have y:=Lib.hid x
 have r:=Lib.hid hok
 have l:=Lib.hid j
 clear x h1 h2 z hok j q D hsb hgb J
 go_enter Tryz.func238,Tryz.ntmps238
 go_wp2_with fail
 try rw[m]
 refine wp_region_held_drew (S:=fun w'=>w'.cell? ⟨sb,0,none⟩=some (.slice a1 s.length c1)∧w'.cell? ⟨gb,0,none⟩=some (.slice (some ⟨b,o,none⟩) g.length cg)∧w'.cell? ⟨w.heap.size,1,none⟩=some (.int .i64 n)∧w'.cell? ⟨b,o+n,none⟩=some (.slice at_ t.length F)) (by kernel_rfl) ⟨M,L,u,E⟩ (fun hS=> ?_)
 refine ak 0 6 (v:= ?_) hS ?_ ?_;rotate_left;·(intro p a;obtain⟨c,f,h,i⟩:=a;go_simp;try(with_reducible rfl))
 refine ak 1 7 (v:= ?_) hS ?_ ?_;rotate_left;·(intro p a;obtain⟨c,f,h,i⟩:=a;go_simp;try(with_reducible rfl))
 refine ak 2 8 (v:= ?_) hS ?_ ?_;rotate_left;·(intro p a;obtain⟨c,f,h,i⟩:=a;go_simp;try(with_reducible rfl))
 refine ak 3 9 (v:= ?_) hS ?_ ?_;rotate_left;·(intro p a;obtain⟨c,f,h,i⟩:=a;go_simp;try(with_reducible rfl))
 refine ak 4 10 (v:= ?_) hS ?_ ?_;rotate_left;·(intro p a;obtain⟨c,f,h,i⟩:=a;go_simp;try(with_reducible rfl))
 refine ak 5 11 (v:= ?_) hS ?_ ?_;rotate_left;·(intro p a;obtain⟨c,f,h,i⟩:=a;go_simp;try(with_reducible rfl))
 refine bI 6 rfl (by kernel_rfl) (fun K G=> ?_)
 go_simp
 (with_reducible refine y.out.mono ?_)
 rintro e Q ⟨v,P,rfl,k,-,I⟩
 obtain⟨rfl,H⟩:=I r.out
 refine G.out _ _ ⟨cell_later k M,cell_later k L,cell_later k u,cell_later k E⟩ ?_
 clear hS G I
 intro hS
 refine ak 7 13 (v:= ?_) hS ?_ ?_;rotate_left;·(intro p a;obtain⟨c,f,h,i⟩:=a;go_simp;try(with_reducible rfl))
 refine ak 8 14 (v:= ?_) hS ?_ ?_;rotate_left;·(intro p a;obtain⟨c,f,h,i⟩:=a;go_simp;try(with_reducible rfl))
 refine ak 9 4 (v:= ?_) hS ?_ ?_;rotate_left;·(intro p a;obtain⟨c,f,h,i⟩:=a;go_simp;try(with_reducible rfl))
 refine ak 10 5 (v:= ?_) hS ?_ ?_;rotate_left;·(intro p a;obtain⟨c,f,h,i⟩:=a;go_simp;try(with_reducible rfl))
 refine wpAnyH_done (by kernel_rfl) ?_ _
 have C:=Lib.hid (OwnL.baseMono (base':=w.heap.size) H l.out.size)
 have A:=Lib.hid (l.out.trans (k.mono l.out.size))
 clear hS H k
 go_wp2_with fail
 go_ret2
 exact⟨_,rfl,C.out,A.out⟩
theorem H3{S1 S2:Nat→Prop}(a1 ag:Option Addr)(c1 cg sb gb n m:Nat)(s:Sg)(g:List (List Int))(w:World)(h1:Sign S1 w a1 c1 s)(h2:Terms S2 w ag cg g)(hsb:w.cell? ⟨sb,0,none⟩=some (.slice a1 s.length c1))(hgb:w.cell? ⟨gb,0,none⟩=some (.slice ag g.length cg))(hn:n<g.length)(hm:m<g.length):
  Calls Tryz.prog 240 #[.agg #[.int .i64 2, .int .i64 n, .int .i64 m], .pointer (some ⟨sb,0,none⟩), .pointer (some ⟨gb,0,none⟩)] w (retE (dj s g[n] g[m]) w):=by
 have m2:=h2.le
 obtain⟨b,o,at_,O,rfl,-,q,G⟩:=h2.sub n hn
 obtain⟨b',o',N,P,R,-,U,z⟩:=h2.sub m hm
 simp only[Option.some.injEq,Addr.mk.injEq,and_true]at R
 obtain⟨rfl,rfl⟩:=R
 obtain⟨W1,x⟩:∃W,w.alloc (.cells #[.int .i64 2, .int .i64 n, .int .i64 m] 72)=W:=⟨_,rfl⟩
 have l:Below w.heap.size w W1.drew:=by rw[←x];exact(an w _).drew
 have V:W1.cell? ⟨w.heap.size,1,none⟩=some (.int .i64 n):=by rw[←x];clear x;go_simp
 have X:W1.cell? ⟨w.heap.size,2,none⟩=some (.int .i64 m):=by rw[←x];clear x;go_simp
 have A:W1.drew.cell? ⟨w.heap.size,1,none⟩=some (.int .i64 n):=V
 have B:W1.drew.cell? ⟨w.heap.size,2,none⟩=some (.int .i64 m):=X
 have E:=Aq a1 at_ N c1 O P s g[n] g[m] W1.drew (h1.below l) (G.below l) (z.below l)
 have Z:=cell_later l hsb
 have Y:=cell_later l hgb
 have L:=cell_later l q
 have M:=cell_later l U
 have mI:=G.le
 have J:=z.le
 obtain⟨t,C⟩:∃t,g[n]=t:=⟨_,rfl⟩
 obtain⟨u,D⟩:∃t,g[m]=t:=⟨_,rfl⟩
 rw[C,D]at E
 rw[C]at L mI
 rw[D]at M J
 rw[C,D]
 have F:=Lib.hid E
 have y:=Lib.hid l
 clear E h1 h2 G z l q U C D hsb hgb V X
 go_enter Tryz.func240,Tryz.ntmps240
 go_wp2_with fail
 try rw[x]
 refine wp_region_held_drew (S:=fun w'=>w'.cell? ⟨sb,0,none⟩=some (.slice a1 s.length c1)∧w'.cell? ⟨gb,0,none⟩=some (.slice (some ⟨b,o,none⟩) g.length cg)∧w'.cell? ⟨w.heap.size,1,none⟩=some (.int .i64 n)∧w'.cell? ⟨w.heap.size,2,none⟩=some (.int .i64 m)∧w'.cell? ⟨b,o+n,none⟩=some (.slice at_ t.length O)∧w'.cell? ⟨b,o+m,none⟩=some (.slice N u.length P)) (by kernel_rfl) ⟨Z,Y,A,B,L,M⟩ (fun hS=> ?_)
 refine ak 0 6 (v:= ?_) hS ?_ ?_;rotate_left;·(intro r a;obtain⟨c,f,h,i,j,k⟩:=a;go_simp;try(with_reducible rfl))
 refine ak 1 7 (v:= ?_) hS ?_ ?_;rotate_left;·(intro r a;obtain⟨c,f,h,i,j,k⟩:=a;go_simp;try(with_reducible rfl))
 refine ak 2 8 (v:= ?_) hS ?_ ?_;rotate_left;·(intro r a;obtain⟨c,f,h,i,j,k⟩:=a;go_simp;try(with_reducible rfl))
 refine ak 3 9 (v:= ?_) hS ?_ ?_;rotate_left;·(intro r a;obtain⟨c,f,h,i,j,k⟩:=a;go_simp;try(with_reducible rfl))
 refine ak 4 10 (v:= ?_) hS ?_ ?_;rotate_left;·(intro r a;obtain⟨c,f,h,i,j,k⟩:=a;go_simp;try(with_reducible rfl))
 refine ak 5 11 (v:= ?_) hS ?_ ?_;rotate_left;·(intro r a;obtain⟨c,f,h,i,j,k⟩:=a;go_simp;try(with_reducible rfl))
 refine ak 6 12 (v:= ?_) hS ?_ ?_;rotate_left;·(intro r a;obtain⟨c,f,h,i,j,k⟩:=a;go_simp;try(with_reducible rfl))
 refine ak 7 13 (v:= ?_) hS ?_ ?_;rotate_left;·(intro r a;obtain⟨c,f,h,i,j,k⟩:=a;go_simp;try(with_reducible rfl))
 refine ak 8 14 (v:= ?_) hS ?_ ?_;rotate_left;·(intro r a;obtain⟨c,f,h,i,j,k⟩:=a;go_simp;try(with_reducible rfl))
 refine ak 9 15 (v:= ?_) hS ?_ ?_;rotate_left;·(intro r a;obtain⟨c,f,h,i,j,k⟩:=a;go_simp;try(with_reducible rfl))
 refine ak 10 16 (v:= ?_) hS ?_ ?_;rotate_left;·(intro r a;obtain⟨c,f,h,i,j,k⟩:=a;go_simp;try(with_reducible rfl))
 refine bI 11 rfl (by kernel_rfl) (fun K Q=> ?_)
 go_simp
 (with_reducible refine F.out.mono ?_)
 rintro e w8 ⟨v,rfl,T,p⟩
 refine Q.out _ _ ⟨cell_later p Z,cell_later p Y,cell_later p A,cell_later p B,cell_later p L,cell_later p M⟩ ?_
 clear hS Q
 intro hS
 refine ak 12 18 (v:= ?_) hS ?_ ?_;rotate_left;·(intro r a;obtain⟨c,f,h,i,j,k⟩:=a;go_simp;try(with_reducible rfl))
 refine ak 13 19 (v:= ?_) hS ?_ ?_;rotate_left;·(intro r a;obtain⟨c,f,h,i,j,k⟩:=a;go_simp;try(with_reducible rfl))
 refine ak 14 4 (v:= ?_) hS ?_ ?_;rotate_left;·(intro r a;obtain⟨c,f,h,i,j,k⟩:=a;go_simp;try(with_reducible rfl))
 refine ak 15 5 (v:= ?_) hS ?_ ?_;rotate_left;·(intro r a;obtain⟨c,f,h,i,j,k⟩:=a;go_simp;try(with_reducible rfl))
 refine wpAnyH_done (by kernel_rfl) ?_ _
 have I:=Lib.hid (OwnL.baseMono (base':=w.heap.size) T y.out.size)
 have H:=Lib.hid (y.out.trans (p.mono y.out.size))
 clear hS T p
 go_wp2_with fail
 go_ret2
 exact⟨_,rfl,I.out,H.out⟩
attribute [local go_sem] Oper.semAt_some
theorem sI{F:Fence}{n:Nat}{P:Program}{Q:Exit→Act→World→Prop}{ops:Array Oper}{rest:List Oper}{o:Oper}{a:Act}{w:World}(hg:Region.wanted o (yielded ops a.tmps)=true)(s x:Operand)(t:TypeId)
  (ho:o.op= .call {callee:= .builtin .append,args:= #[s,x],argTypes:= #[t,t]}) {vs vx:Value} (hs:a.eval s=vs) (hx:a.eval x=vx) {v':Value} {w':World}
  (hr:(Builtin.append_ #[t,t] o.type #[vs,vx]).run P w= .ok v' w') (h:wpListIn F n P ops Q rest (a.put o.dst v') w'):wpListIn F n P ops Q (o::rest) a w:=
 NextIn.append (K:=wpListIn F n P ops Q rest) hg s x t ho hs hx hr h
structure Td where
 ap:Option Addr
 cp:Nat
 t:List Int
 e:Int
def Td.enc(x:Td):Array Value:= #[.agg #[.slice x.ap x.t.length x.cp, .int .i64 x.e]]
def Td.pt(x:Td):List Int×Int:=(x.t,x.e)
def kT(x:Td)(W:World):Prop:=Ints (IntB W) W x.ap x.cp x.t∧x.t.length≤60
theorem Td.size(x:Td):x.enc.size=1:=rfl
def Rw(B0:Nat)(W:World)(r:Nat)(o:Obj):Prop:=∃cs t,o= .cells cs t (0,0)∧t≠3∧r≠B0∧some r≠ck B0 W
def Kp(B0:Nat)(W W':World):Prop:=Leaves B0 W W'∧IntKeep W W'
theorem Kp.trans{B0:Nat}{A B C:World}(h:Kp B0 A B)(k:Kp B0 B C):Kp B0 A C:=⟨h.1.trans k.1,h.2.trans k.2⟩
noncomputable def dt(s:Sg)(g:List (List Int)):List Stp→List (List Int)→List (List Int×Int)
 | [],_=>[]
 |x::p,l=>bT s g l x::(if(bT s g l x).2=0 then dt s g p (l++[(bT s g l x).1])else [])
theorem It{s:Sg}{g l:List (List Int)}{p:List Stp}{k:Nat}(h:k<p.length):dt s g (p.drop k) l=bT s g l p[k]::(if(bT s g l p[k]).2=0 then dt s g (p.drop (k+1)) (l++[(bT s g l p[k]).1])else []):=by
 rw[List.drop_eq_getElem_cons h,dt]
theorem HZ{s:Sg}{g l:List (List Int)}{x:Stp}(hg:∀t∈g,aw s t=true)(hl:∀t∈l,aw s t=true)(hr:aY g.length l.length x=true):(bT s g l x).1.length≤60:=by
 by_cases h:(bT s g l x).2=0
 ·exact(bj (si hg hr h)).2.2.1
 have:(bT s g l x).1=[]:=by
  unfold bT at h⊢
  by_cases a:x.1=1
  ·rw[if_pos a]at h;exact(h rfl).elim
  rw[if_neg a]at h⊢
  obtain⟨-,b,c,f,i⟩:=oJ hr a
  rcases Ct (hl _ (qo [] (show x.2.1.toNat<l.length by omega))) (hl _ (qo [] (show x.2.2.toNat<l.length by omega)))with e|e
  ·exact(h e).elim
  exact e.1
 rw[this];simp
theorem qn{l:List (List Int)}{n:Nat}(h:n<l.length):l.getD n []=l[n]:=by rw[List.getD_eq_getElem?_getD,List.getElem?_eq_getElem h];rfl
theorem xF{G:Int}:∀(p:List Stp) (n k:Nat) (h:k<p.length),a8 G n p=true→aY G (n+k) p[k]=true
 |x::p,n,0,_,h=>by simp only[a8,Bool.and_eq_true]at h;simpa using h.1
 |x::p,n,k+1,hk,h=>by
  simp only[a8,Bool.and_eq_true]at h
  have:=xF p (n+1) k (by simpa using hk) h.2
  rw[show n+1+k=n+(k+1)by omega]at this
  simpa using this
structure SI (K B0 L0 sb gb pb ab:Nat) (a1 ag ap:Option Addr) (c1 cg cp:Nat) (s:Sg) (g:List (List Int)) (p:List Stp) (acc:List (List Int)) (W:World):Prop where
 row:iN B0 W
 kle:K≤W.heap.size
 fcs:W.cell? ⟨sb,0,none⟩=some (.slice a1 s.length c1)
 ss:sb<K∧Safe B0 W sb
 fcg:W.cell? ⟨gb,0,none⟩=some (.slice ag g.length cg)
 fsg:gb<K∧Safe B0 W gb
 ca0:W.cell? ⟨ab,0,none⟩=some (.func (.func 238) #[] #[.pointer (some ⟨sb,0,none⟩), .pointer (some ⟨gb,0,none⟩)])
 ca1:W.cell? ⟨ab,1,none⟩=some (.func (.func 240) #[] #[.pointer (some ⟨sb,0,none⟩), .pointer (some ⟨L0,0,none⟩)])
 ta:∃cs,W.heap[ab]?=some (.cells cs 258 (0,0))
 sa:Safe B0 W ab
 box:TBox W L0 K acc
 kL:K≤L0
 sL:Safe B0 W L0
 sR:∀r,ck L0 W=some r→Safe B0 W r
 sig:Sign (fun b=>b<K∧Safe B0 W b) W a1 c1 s
 giv:Terms (fun b=>b<K∧Safe B0 W b) W ag cg g
 prf:Steps (fun b=>b<K∧Safe B0 W b) W ap cp p
section
variable {K B0 L0 sb gb pb ab:Nat}{a1 ag ap:Option Addr}{c1 cg cp:Nat}{s:Sg}{g:List (List Int)}{p:List Stp}{acc:List (List Int)}{W W':World}
theorem SI.keep(h:SI K B0 L0 sb gb pb ab a1 ag ap c1 cg cp s g p acc W)(k:Leaves B0 W W')(i:IntKeep W W'):SI K B0 L0 sb gb pb ab a1 ag ap c1 cg cp s g p acc W':=by
 have c:∀b,b<W.heap.size→(b<K∧Safe B0 W b)→b<K∧Safe B0 W' b:=fun b _ a=>⟨a.1,k.safe a.2⟩
 have hA:Agree (fun b=>b<K∧Safe B0 W b) W W':=fun b a _=>k.same b a.2
 have hr:=jU (k.same L0 h.sL)
 exact⟨k.lt h.row,Nat.le_trans h.kle k.size,k.cell h.ss.2 h.fcs,⟨h.ss.1,k.safe h.ss.2⟩,k.cell h.fsg.2 h.fcg,⟨h.fsg.1,k.safe h.fsg.2⟩,k.cell h.sa h.ca0,k.cell h.sa h.ca1,by obtain⟨f,j⟩:=h.ta;exact⟨f,(k.same ab h.sa).trans j⟩,k.safe h.sa,
  h.box.keep (k.same L0 h.sL) (fun r hr=>k.same r (h.sR r hr)) i,h.kL,k.safe h.sL,fun r e=>k.safe (h.sR r (by rw[←hr];exact e)),h.sig.mono c hA,h.giv.mono c hA,h.prf.mono c hA⟩
theorem SI.below(h:SI K B0 L0 sb gb pb ab a1 ag ap c1 cg cp s g p acc W)(hb:Below W.heap.size W W'):SI K B0 L0 sb gb pb ab a1 ag ap c1 cg cp s g p acc W':=h.keep (.of_below h.row.1 hb) (.of_below hb)
theorem SI.pushed(h:SI K B0 L0 sb gb pb ab a1 ag ap c1 cg cp s g p acc W){acc':List (List Int)}(hsz:W.heap.size≤W'.heap.size)(hsame:∀b,b<W.heap.size→b≠L0→some b≠ck L0 W→W'.heap[b]?=W.heap[b]?)(hbox:TBox W' L0 K acc')
  (hrow:ck L0 W'=ck L0 W∨∃k,ck L0 W'=some k∧W.heap.size≤k):SI K B0 L0 sb gb pb ab a1 ag ap c1 cg cp s g p acc' W'∧ck B0 W'=ck B0 W:=by
 have y:∀r,ck L0 W=some r→K≤r:=fun r hr=>(h.box.rowCells r hr).1
 have B:W'.heap[B0]?=W.heap[B0]?:=hsame B0 h.row.1 (fun e=>h.sL.1 e.symm) (fun e=>(h.sR B0 e.symm).1 rfl)
 have l:=jU B
 have a:∀b,b<K→W'.heap[b]?=W.heap[b]?:=fun b m=>hsame b (Nat.lt_of_lt_of_le m h.kle) (by have:=h.kL;omega) (fun e=>by have:=y b e.symm;omega)
 have f:∀b,Safe B0 W b→W'.heap[b]?=W.heap[b]?→Safe B0 W' b:=fun b m u=>⟨m.1,by rw[l];exact m.2.1,m.2.2.same u⟩
 have o:W'.heap[ab]?=W.heap[ab]?:=by
  obtain⟨z,n⟩:=h.ta
  refine hsame ab h.sa.2.2.lt (fun e=> ?_) (fun e=> ?_)
  ·obtain⟨q,i⟩:=h.box.boxCells
   rw[←e,n]at i
   simp at i
  obtain⟨-,-,q,i⟩:=h.box.rowCells ab e.symm
  rw[n]at i
  simp at i
 have x:∀b,b<W.heap.size→(b<K∧Safe B0 W b)→b<K∧Safe B0 W' b:=fun b _ m=>⟨m.1,f b m.2 (a b m.1)⟩
 have hA:Agree (fun b=>b<K∧Safe B0 W b) W W':=fun b m _=>a b m.1
 have c:∀{b t:Nat} {v:Value},W'.heap[b]?=W.heap[b]?→W.cell? ⟨b,t,none⟩=some v→W'.cell? ⟨b,t,none⟩=some v:=fun u n=>(World.cell?_of_block (w:=W) u).trans n
 refine⟨⟨⟨Nat.lt_of_lt_of_le h.row.1 hsz,fun r hr=>by rw[l]at hr;exact Nat.lt_of_lt_of_le (h.row.2 r hr) hsz⟩,Nat.le_trans h.kle hsz,c (a _ h.ss.1) h.fcs,⟨h.ss.1,f _ h.ss.2 (a _ h.ss.1)⟩,c (a _ h.fsg.1) h.fcg,⟨h.fsg.1,f _ h.fsg.2 (a _ h.fsg.1)⟩,
  c o h.ca0,c o h.ca1,by obtain⟨z,n⟩:=h.ta;exact⟨z,o.trans n⟩,f _ h.sa o,hbox,h.kL,⟨h.sL.1,by rw[l];exact h.sL.2.1,?_⟩,fun r hr=> ?_,h.sig.mono x hA,h.giv.mono x hA,h.prf.mono x hA⟩,l⟩
 ·obtain⟨q,n⟩:=hbox.boxCells
  exact⟨_,n,rfl⟩
 have j:CellsAt W' r:=by obtain⟨-,-,q,n⟩:=hbox.rowCells r hr;exact⟨_,n,rfl⟩
 rcases hrow with e|⟨k,e,C⟩
 ·rw[e]at hr
  have hs:=h.sR r hr
  exact⟨hs.1,by rw[l];exact hs.2.1,j⟩
 rw[e]at hr
 cases hr
 exact⟨by have:=h.row.1;omega,fun A=>by rw[l]at A;have:=h.row.2 _ A.symm;omega,j⟩
end
theorem SI.more{K B0 L0 sb gb pb ab:Nat}{a1 ag ap:Option Addr}{c1 cg cp:Nat}{s:Sg}{g:List (List Int)}{p:List Stp}{acc acc':List (List Int)}{W W2 W3:World}{J:List Td→World→Prop}{pre:List Td}
  (hab:∀pre W W' row,J pre W→W.grownBy W' row→(∀r,row=some r→K≤r∧∃o:Obj,W.heap[r]?=some o∧Rw B0 W r o)→J pre W')
  (h:SI K B0 L0 sb gb pb ab a1 ag ap c1 cg cp s g p acc W) (hJ:J pre W) {v:Value} (hg:W.grownBy W2 v.ownBlock) (hg3:W2.grownBy W3 (some L0)) (hrB:ck L0 W=v.ownBlock) (hv2:W2.heap[L0]?=some (.cells #[v] 163 (0,0))) (hbox:TBox W3 L0 K acc')
  (hrow:ck L0 W3=v.ownBlock∨∃k,ck L0 W3=some k∧W.heap.size≤k):SI K B0 L0 sb gb pb ab a1 ag ap c1 cg cp s g p acc' W3∧J pre W3:=by
 have c:ck B0 W2=ck B0 W:=jU (hg.block B0 h.row.1 (fun e=>(h.sR B0 (hrB.trans e.symm)).1 rfl))
 have f:=hab pre W W2 v.ownBlock hJ hg (fun r e=>by
  have j:=hrB.trans e
  obtain⟨m,u,a,n⟩:=h.box.rowCells r j
  have hs:=h.sR r j
  exact⟨m,_,n,a,_,rfl,by decide,hs.1,hs.2.1⟩)
 have i:=hab pre W2 W3 (some L0) f hg3 (fun r e=>by
  cases e
  exact⟨h.kL,_,hv2,_,_,rfl,by decide,h.sL.1,by rw[c];exact h.sL.2.1⟩)
 refine⟨(h.pushed (Nat.le_trans hg.size hg3.size) (fun b l q t=> ?_) hbox (by rw[hrB];exact hrow)).1,i⟩
 exact(hg3.block b (Nat.lt_of_lt_of_le l hg.size) (fun e=>q (by injection e))).trans (hg.block b l (by rw[←hrB];exact t))
def oX(K B0 L0 sb gb pb ab:Nat)(a1 ag ap:Option Addr)(c1 cg cp:Nat)(s:Sg)(g:List (List Int))(p:List Stp)(J:List Td→World→Prop)(i:Value)(wr:World):Prop:=
 ∃(k:Nat) (acc:List (List Int)) (pre:List Td),i= .int .i64 k∧k≤p.length∧pre.map Td.pt++dt s g (p.drop k) acc=dt s g p []∧J pre wr∧SI K B0 L0 sb gb pb ab a1 ag ap c1 cg cp s g p acc wr∧acc.length=k∧pre.length=k∧∀t∈acc,aw s t=true
theorem H4(n l sb gb pb B0:Nat)(a1 ag ap:Option Addr)(c1 cg cp:Nat)(s:Sg)(g:List (List Int))(p:List Stp)(J Jx:List Td→World→Prop)(Wst:World)
  (hab:∀pre W W' row,J pre W→W.grownBy W' row→(∀r,row=some r→Wst.heap.size≤r∧∃o:Obj,W.heap[r]?=some o∧Rw B0 W r o)→J pre W')
  (hY:∀m pre x W,J pre W→kT x W→pre.length<p.length→YieldAt Fence.wide m Tryz.prog l x.enc W fun e W'=>(e= .returned (.bool true)∧J (pre++[x]) W'∧Kp B0 W W')∨(e= .returned (.bool false)∧Jx (pre++[x]) W'))
  (hg:∀t∈g,aw s t=true) (hp:a8 g.length 0 p=true) (hlp:p.length≤60) (hrow:iN B0 Wst) (hcs:Wst.cell? ⟨sb,0,none⟩=some (.slice a1 s.length c1)) (hss:Safe B0 Wst sb) (hcg:Wst.cell? ⟨gb,0,none⟩=some (.slice ag g.length cg)) (hsg:Safe B0 Wst gb)
  (hcp:Wst.cell? ⟨pb,0,none⟩=some (.slice ap p.length cp)) (hsig:Sign (Safe B0 Wst) Wst a1 c1 s) (hgiv:Terms (Safe B0 Wst) Wst ag cg g) (hprf:Steps (Safe B0 Wst) Wst ap cp p) (hJ:J [] Wst):
  CallsIn Fence.wide n Tryz.prog 237 #[.func (.yield l) #[] #[], .pointer (some ⟨sb,0,none⟩), .pointer (some ⟨gb,0,none⟩), .pointer (some ⟨pb,0,none⟩)] Wst fun e W'=>(∃v,e= .returned v)∧
   ((∃xs:List Td,xs.map Td.pt=dt s g p []∧J xs W')∨(∃pre:List Td,pre.map Td.pt<+:dt s g p []∧Jx pre W')):=by
 have c0:Fence.wide.round=none:=rfl
 obtain⟨W2,R⟩:∃W2,(Wst.alloc (.cells #[.slice none 0 0] 163)).alloc (.cells #[.func (.func 238) #[] #[.pointer (some ⟨sb,0,none⟩), .pointer (some ⟨gb,0,none⟩)], .func (.func 240) #[] #[.pointer (some ⟨sb,0,none⟩), .pointer (some ⟨Wst.heap.size,0,none⟩)]] 258)=W2:=⟨_,rfl⟩
 have ac:Below Wst.heap.size Wst W2:=by rw[←R];exact dT Wst _ _
 have H:Leaves B0 Wst W2:= .of_below hrow.1 ac
 have bv:W2.cell? ⟨Wst.heap.size+1,0,none⟩=some (.func (.func 238) #[] #[.pointer (some ⟨sb,0,none⟩), .pointer (some ⟨gb,0,none⟩)]):=by rw[←R];clear R;go_simp
 have b5:W2.cell? ⟨Wst.heap.size+1,1,none⟩=some (.func (.func 240) #[] #[.pointer (some ⟨sb,0,none⟩), .pointer (some ⟨Wst.heap.size,0,none⟩)]):=by rw[←R];clear R;go_simp
 have cL:W2.cell? ⟨Wst.heap.size,0,none⟩=some (.slice none 0 0):=by rw[←R];clear R;go_simp
 have cd:TBox W2 Wst.heap.size Wst.heap.size []:=by rw[←R];exact(TBox.new Wst).below (an _ _)
 have cq:W2.heap[Wst.heap.size+1]?=some (.cells #[.func (.func 238) #[] #[.pointer (some ⟨sb,0,none⟩), .pointer (some ⟨gb,0,none⟩)], .func (.func 240) #[] #[.pointer (some ⟨sb,0,none⟩), .pointer (some ⟨Wst.heap.size,0,none⟩)]] 258 (0,0)):=by
  rw[←R]
  have:=World.alloc_heap_new (Wst.alloc (.cells #[.slice none 0 0] 163)) (.cells #[.func (.func 238) #[] #[.pointer (some ⟨sb,0,none⟩), .pointer (some ⟨gb,0,none⟩)], .func (.func 240) #[] #[.pointer (some ⟨sb,0,none⟩), .pointer (some ⟨Wst.heap.size,0,none⟩)]] 258)
  rw[World.size_alloc]at this
  exact this
 have cn:ck Wst.heap.size W2=none:=by unfold ck;rw[cL];rfl
 have hm:∀b,b<Wst.heap.size→Safe B0 Wst b→b<Wst.heap.size∧Safe B0 W2 b:=fun b aW hb=>⟨aW,H.safe hb⟩
 have cb:SI Wst.heap.size B0 Wst.heap.size sb gb pb (Wst.heap.size+1) a1 ag ap c1 cg cp s g p [] W2:=
  ⟨H.lt hrow,ac.size,H.cell hss hcs,⟨hss.2.2.lt,H.safe hss⟩,H.cell hsg hcg,⟨hsg.2.2.lt,H.safe hsg⟩,bv,b5,⟨_,cq⟩, .fresh hrow ac (Nat.le_succ _) (.of_cell bv),cd,Nat.le_refl _, .fresh hrow ac (Nat.le_refl _) (.of_cell cL),(fun r hr=>by rw[cn]at hr;cases hr),
   hsig.mono hm H.agree,hgiv.mono hm H.agree,hprf.mono hm H.agree⟩
 have b7:=hab [] Wst W2 none hJ (Below.grow ac) (fun r e=>by cases e)
 have cU:=cell_later ac hcp
 have C:oX Wst.heap.size B0 Wst.heap.size sb gb pb (Wst.heap.size+1) a1 ag ap c1 cg cp s g p J (.int .i64 ((0:Nat):Int)) W2:=⟨0,[],[],rfl,Nat.zero_le _,rfl,b7,cb,rfl,rfl,fun t h=>by cases h⟩
 have L:=Lib.hid C
 have Z:=Lib.hid hab
 have cf:=Lib.hid hY
 have bU:=Lib.hid hg
 have cT:=Lib.hid hp
 have mp:=hprf.le
 clear C hab hY hg hp hrow hcs hss hcg hsg hcp hsig hgiv hprf hJ ac H bv b5 cL cd cq cn hm cb b7
 refine callsIn_of_wp Tryz.func237 rfl trivial ?_ c0
 simp only[Tryz.ntmps237,List.size_toArray,List.length_cons,List.length_nil,Nat.reduceAdd,Nat.reduceSub,Array.replicate_succ,Array.replicate_zero,List.push_toArray,List.append_toArray,List.nil_append,List.cons_append]
 gi_wp2_with fail
 gi_loopw [16] (fun i wr=>oX Wst.heap.size B0 Wst.heap.size sb gb pb (Wst.heap.size+1) a1 ag ap c1 cg cp s g p J i wr) (fun i _=>p.length-(intOf i).toNat)
 case atStart=>exact L.out
 case round=>
  clear L cU
  obtain⟨k,c,pre,rfl,hk,al,hJ,hS,cP,cj,aR⟩:=hrel
  subst cP
  by_cases aW:c.length<p.length
  ·obtain⟨bp,op,rfl,-,q0,q1,q2,hr⟩:=hS.prf.stp c.length aW
   have w:=xF p 0 c.length aW cT.out
   have a5:=It (s:=s) (g:=g) (l:=c) aW
   rw[Nat.zero_add]at w
   obtain⟨x,hx⟩:∃x,p[c.length]=x:=⟨_,rfl⟩
   rw[hx]at w a5 q0 q1 q2
   have E:=HZ bU.out aR w
   have aj:=fun h=>si (l:=c) bU.out w h
   obtain⟨kd,A,Bv⟩:=x
   simp only at q0 q1 q2
   obtain⟨W1,Q⟩:∃W,wr.alloc (.cells #[.int .i64 kd, .int .i64 A, .int .i64 Bv] 72)=W:=⟨_,rfl⟩
   have ch:Below wr.heap.size wr W1.drew:=by rw[←Q];exact(an wr _).drew
   have x0:W1.drew.cell? ⟨wr.heap.size,0,none⟩=some (.int .i64 kd):=(by rw[←Q];clear Q;go_simp:W1.cell? ⟨wr.heap.size,0,none⟩=some (.int .i64 kd))
   have x1:W1.drew.cell? ⟨wr.heap.size,1,none⟩=some (.int .i64 A):=(by rw[←Q];clear Q;go_simp:W1.cell? ⟨wr.heap.size,1,none⟩=some (.int .i64 A))
   have x2:W1.drew.cell? ⟨wr.heap.size,2,none⟩=some (.int .i64 Bv):=(by rw[←Q];clear Q;go_simp:W1.cell? ⟨wr.heap.size,2,none⟩=some (.int .i64 Bv))
   have F:=hS.below ch
   obtain⟨aL,cL,ci,ce⟩:=F.box.slice
   obtain⟨⟨rt,re⟩,bl⟩:∃r,bT s g c (kd,A,Bv)=r:=⟨_,rfl⟩
   have bN:(kd=1∧Calls Tryz.prog 238 #[.agg #[.int .i64 kd, .int .i64 A, .int .i64 Bv], .pointer (some ⟨sb,0,none⟩), .pointer (some ⟨gb,0,none⟩)] W1.drew (retE (rt,re) W1.drew))∨
     (kd=2∧Calls Tryz.prog 240 #[.agg #[.int .i64 kd, .int .i64 A, .int .i64 Bv], .pointer (some ⟨sb,0,none⟩), .pointer (some ⟨Wst.heap.size,0,none⟩)] W1.drew (retE (rt,re) W1.drew)):=by
    by_cases D:kd=1
    ·left
     subst D
     obtain⟨g1,g2,-⟩:=rO w rfl
     simp only at g1 g2
     obtain⟨n1,rfl⟩:=Int.eq_ofNat_of_zero_le g1
     have au:n1<g.length:=by omega
     have C:bT s g c (1,(n1:Int),Bv)=(cz g[n1],0):=by
      unfold bT
      rw[if_pos rfl]
      simp only[Int.toNat_natCast]
      rw[qn au]
     rw[←bl,C]
     exact⟨rfl,B6 a1 ag c1 cg sb gb n1 Bv s g W1.drew F.sig F.giv F.fcs F.fcg au (bU.out _ (List.getElem_mem au))⟩
    right
    obtain⟨h2,d1,d2,d3,d4⟩:=oJ w D
    simp only at h2 d1 d2 d3 d4
    subst h2
    obtain⟨n1,rfl⟩:=Int.eq_ofNat_of_zero_le d1
    obtain⟨m1,rfl⟩:=Int.eq_ofNat_of_zero_le d3
    have au:n1<c.length:=by omega
    have cl:m1<c.length:=by omega
    have C:bT s g c (2,(n1:Int),(m1:Int))=dj s c[n1] c[m1]:=by
     unfold bT
     rw[if_neg D]
     simp only[Int.toNat_natCast]
     rw[qn au,qn cl]
    rw[←bl,C]
    exact⟨rfl,H3 a1 aL c1 cL sb Wst.heap.size n1 m1 s c W1.drew F.sig ce F.fcs ci au cl⟩
   rw[bl]at a5 E aj
   simp only at a5 E aj
   have bP:=F.ca0
   have bS:=F.ca1
   have bu:=Lib.hid F
   have bt:=Lib.hid (Z.out pre wr W1.drew none hJ (Below.grow ch) (fun r e=>by cases e))
   have z:=Lib.hid al
   have M:=Lib.hid a5
   have aU:=Lib.hid E
   have a0:=Lib.hid aj
   have aT:=Lib.hid aR
   clear hS hJ F al a5 E aj aR ce ci w hx bl hr
   have d6:IntKind.i64.wrap 0=0:=IntWalk.i64_in _ (by omega)
   have ea:IntKind.i64.wrap 1=1:=IntWalk.i64_in _ (by omega)
   rcases bN with⟨rfl,cc⟩|⟨rfl,cc⟩
   ·have bx:=Lib.hid cc
    clear cc bS
    gi_wp2
    try rw[Q]
    refine wpIn_wide.2 ?_
    refine wp_region_held_drew (S:=fun w'=>w'.cell? ⟨wr.heap.size,0,none⟩=some (.int .i64 1)∧w'.cell? ⟨wr.heap.size,1,none⟩=some (.int .i64 A)∧w'.cell? ⟨wr.heap.size,2,none⟩=some (.int .i64 Bv)∧w'.cell? ⟨Wst.heap.size+1,0,none⟩=some (.func (.func 238) #[] #[.pointer (some ⟨sb,0,none⟩), .pointer (some ⟨gb,0,none⟩)])) (by kernel_rfl) ⟨x0,x1,x2,bP⟩ (fun hS=> ?_)
    refine ak 0 21 (v:= ?_) hS ?_ ?_;rotate_left;·(intro I a;obtain⟨f,j,q,u⟩:=a;go_simp;try(with_reducible rfl))
    refine ak 1 22 (v:= ?_) hS ?_ ?_;rotate_left;·(intro I a;obtain⟨f,j,q,u⟩:=a;go_simp;try(with_reducible rfl))
    refine ak 2 23 (v:= ?_) hS ?_ ?_;rotate_left;·(intro I a;obtain⟨f,j,q,u⟩:=a;go_simp;try(with_reducible rfl))
    refine ak 3 24 (v:= ?_) hS ?_ ?_;rotate_left;·(intro I a;obtain⟨f,j,q,u⟩:=a;go_simp;try(with_reducible rfl))
    refine ak 4 25 (v:= ?_) hS ?_ ?_;rotate_left;·(intro I a;obtain⟨f,j,q,u⟩:=a;go_simp;try(with_reducible rfl))
    refine ak 5 26 (v:= ?_) hS ?_ ?_;rotate_left;·(intro I a;obtain⟨f,j,q,u⟩:=a;go_simp;try(with_reducible rfl))
    refine bI 6 rfl (by kernel_rfl) (fun K hK=> ?_)
    go_simp
    (with_reducible refine bx.out.mono ?_)
    rintro e w8 ⟨v,rfl,ho,y⟩
    refine hK.out _ _ ⟨cell_later y x0,cell_later y x1,cell_later y x2,cell_later y bP⟩ ?_
    clear hS hK
    intro hS
    refine ak 7 20 (v:= ?_) hS ?_ ?_;rotate_left;·(intro I a;obtain⟨f,j,q,u⟩:=a;go_simp;try(with_reducible rfl))
    refine ak 8 28 (v:= ?_) hS ?_ ?_;rotate_left;·(intro I a;obtain⟨f,j,q,u⟩:=a;go_simp;try(with_reducible rfl))
    refine ak 9 29 (v:= ?_) hS ?_ ?_;rotate_left;·(intro I a;obtain⟨f,j,q,u⟩:=a;go_simp;try(with_reducible rfl))
    refine ak 10 9 (v:= ?_) hS ?_ ?_;rotate_left;·(intro I a;obtain⟨f,j,q,u⟩:=a;go_simp;try(with_reducible rfl))
    refine ak 11 10 (v:= ?_) hS ?_ ?_;rotate_left;·(intro I a;obtain⟨f,j,q,u⟩:=a;go_simp;try(with_reducible rfl))
    refine wpAnyH_done (by kernel_rfl) ?_ _
    clear hS
    have P:=bu.out.below y
    have aO:=Z.out pre W1.drew w8 none bt.out (Below.grow y) (fun r e=>by cases e)
    obtain⟨a4,c4,rfl,N⟩:=OwnI.intsB ho
    simp only at N
    obtain⟨vL,a',bw,W9,k1,k2,k3,k4,k5,k6,k7,k8,k9,a9,ba⟩:=P.box.push P.kle (.refl _ _) N (by omega)
    obtain⟨Y,V⟩:=SI.more Z.out P aO k6.out k7.out k8.out k9.out k5.out ba.out
    have X:kT ⟨a4,c4,rt,re⟩ (W9.setCell ⟨Wst.heap.size,0,none⟩ (.slice a' (c.length+1) bw)):=⟨N.intKeep a9.out,aU.out⟩
    have bW:=cf.out (n-1) pre ⟨a4,c4,rt,re⟩ _ V X (by omega)
    obtain⟨fn,cx,bf,b3,hy,hR⟩:=bW
    dsimp only[Td.enc]at hy
    have k1:=k1.out
    have k2:=k2.out
    have k3:=k3.out
    have k4:=k4.out
    have ab:=Lib.hid Y
    have bA:=Lib.hid hR
    clear Y hR X V aO P k5 k6 k7 k8 k9 a9 ba N ho y
    gi_wp2_with (refine sI rfl (.tmp 30) (.tmp 32) 163 rfl rfl rfl k2 ?_)
    refine⟨fun h=>(by cases h),?_⟩
    refine bA.out.mono ?_
    clear hy k1 k2 k3 k4
    rintro e ax (⟨rfl,O,T⟩|⟨rfl,aP⟩)
    ·by_cases U:re=0
     ·subst U
      have C:oX Wst.heap.size B0 Wst.heap.size sb gb pb (Wst.heap.size+1) a1 ag (some ⟨bp,op,none⟩) c1 cg cp s g p J (.int .i64 ((c.length+1:Nat):Int)) ax:=by
       refine⟨c.length+1,c++[rt],pre++[⟨a4,c4,rt,0⟩],rfl,by omega,?_,O,ab.out.keep T.1 T.2,by simp,by simp[cj],fun t ht=> ?_⟩
       ·have D:=z.out
        rw[M.out,if_pos rfl]at D
        rw[List.map_append,List.append_assoc,←D];rfl
       rcases List.mem_append.1 ht with h2|h2
       ·exact aT.out t h2
       rw[List.mem_singleton]at h2;rw[h2];exact a0.out rfl
      have L:=Lib.hid C
      clear C O T
      gi_wp2
      go_roundw
      case rel=>exact L.out
      case measure=>simp[intOf];omega
     have cW:(re != 0)=true:=by simpa using U
     have B:∃xs:List Td,xs.map Td.pt=dt s g p []∧J xs ax:=by
      refine⟨pre++[⟨a4,c4,rt,re⟩],?_,O⟩
      have D:=z.out
      rw[M.out,if_neg U]at D
      rw[List.map_append,←D];rfl
     have G:=Lib.hid B
     clear B O T U
     gi_wp2
     try simp only[Exit.inBlock,Exit.then]
     refine bodyPost_ret (results_none rfl _ _ _) rfl ?_
     exact⟨⟨_,rfl⟩, .inl G.out⟩
    have a2:(pre++[(⟨a4,c4,rt,re⟩:Td)]).map Td.pt<+:dt s g p []:=by
     have D:=z.out
     rw[M.out]at D
     rw[←D,List.map_append]
     exact⟨_,by rw[List.append_assoc];rfl⟩
    have a3:=Lib.hid a2
    clear a2
    gi_wp2
    try simp only[Exit.inBlock,Exit.then]
    refine bodyPost_ret (results_none rfl _ _ _) rfl ?_
    exact⟨⟨_,rfl⟩, .inr ⟨_,a3.out,aP⟩⟩
   have bx:=Lib.hid cc
   clear cc bP
   gi_wp2
   try rw[Q]
   refine wpIn_wide.2 ?_
   refine wp_region_held_drew (S:=fun w'=>w'.cell? ⟨wr.heap.size,0,none⟩=some (.int .i64 2)∧w'.cell? ⟨wr.heap.size,1,none⟩=some (.int .i64 A)∧w'.cell? ⟨wr.heap.size,2,none⟩=some (.int .i64 Bv)∧w'.cell? ⟨Wst.heap.size+1,1,none⟩=some (.func (.func 240) #[] #[.pointer (some ⟨sb,0,none⟩), .pointer (some ⟨Wst.heap.size,0,none⟩)])) (by kernel_rfl) ⟨x0,x1,x2,bS⟩ (fun hS=> ?_)
   refine ak 0 21 (v:= ?_) hS ?_ ?_;rotate_left;·(intro I a;obtain⟨f,j,q,u⟩:=a;go_simp;try(with_reducible rfl))
   refine ak 1 22 (v:= ?_) hS ?_ ?_;rotate_left;·(intro I a;obtain⟨f,j,q,u⟩:=a;go_simp;try(with_reducible rfl))
   refine ak 2 23 (v:= ?_) hS ?_ ?_;rotate_left;·(intro I a;obtain⟨f,j,q,u⟩:=a;go_simp;try(with_reducible rfl))
   refine ak 3 24 (v:= ?_) hS ?_ ?_;rotate_left;·(intro I a;obtain⟨f,j,q,u⟩:=a;go_simp;try(with_reducible rfl))
   refine ak 4 25 (v:= ?_) hS ?_ ?_;rotate_left;·(intro I a;obtain⟨f,j,q,u⟩:=a;go_simp;try(with_reducible rfl))
   refine ak 5 26 (v:= ?_) hS ?_ ?_;rotate_left;·(intro I a;obtain⟨f,j,q,u⟩:=a;go_simp;try(with_reducible rfl))
   refine bI 6 rfl (by kernel_rfl) (fun K hK=> ?_)
   go_simp
   (with_reducible refine bx.out.mono ?_)
   rintro e w8 ⟨v,rfl,ho,y⟩
   refine hK.out _ _ ⟨cell_later y x0,cell_later y x1,cell_later y x2,cell_later y bS⟩ ?_
   clear hS hK
   intro hS
   refine ak 7 20 (v:= ?_) hS ?_ ?_;rotate_left;·(intro I a;obtain⟨f,j,q,u⟩:=a;go_simp;try(with_reducible rfl))
   refine ak 8 28 (v:= ?_) hS ?_ ?_;rotate_left;·(intro I a;obtain⟨f,j,q,u⟩:=a;go_simp;try(with_reducible rfl))
   refine ak 9 29 (v:= ?_) hS ?_ ?_;rotate_left;·(intro I a;obtain⟨f,j,q,u⟩:=a;go_simp;try(with_reducible rfl))
   refine ak 10 9 (v:= ?_) hS ?_ ?_;rotate_left;·(intro I a;obtain⟨f,j,q,u⟩:=a;go_simp;try(with_reducible rfl))
   refine ak 11 10 (v:= ?_) hS ?_ ?_;rotate_left;·(intro I a;obtain⟨f,j,q,u⟩:=a;go_simp;try(with_reducible rfl))
   refine wpAnyH_done (by kernel_rfl) ?_ _
   clear hS
   have P:=bu.out.below y
   have aO:=Z.out pre W1.drew w8 none bt.out (Below.grow y) (fun r e=>by cases e)
   obtain⟨a4,c4,rfl,N⟩:=OwnI.intsB ho
   simp only at N
   obtain⟨vL,a',bw,W9,k1,k2,k3,k4,k5,k6,k7,k8,k9,a9,ba⟩:=P.box.push P.kle (.refl _ _) N (by omega)
   obtain⟨Y,V⟩:=SI.more Z.out P aO k6.out k7.out k8.out k9.out k5.out ba.out
   have X:kT ⟨a4,c4,rt,re⟩ (W9.setCell ⟨Wst.heap.size,0,none⟩ (.slice a' (c.length+1) bw)):=⟨N.intKeep a9.out,aU.out⟩
   have bW:=cf.out (n-1) pre ⟨a4,c4,rt,re⟩ _ V X (by omega)
   obtain⟨fn,cx,bf,b3,hy,hR⟩:=bW
   dsimp only[Td.enc]at hy
   have k1:=k1.out
   have k2:=k2.out
   have k3:=k3.out
   have k4:=k4.out
   have ab:=Lib.hid Y
   have bA:=Lib.hid hR
   clear Y hR X V aO P k5 k6 k7 k8 k9 a9 ba N ho y
   gi_wp2_with (refine sI rfl (.tmp 30) (.tmp 32) 163 rfl rfl rfl k2 ?_)
   refine⟨fun h=>(by cases h),?_⟩
   refine bA.out.mono ?_
   clear hy k1 k2 k3 k4
   rintro e ax (⟨rfl,O,T⟩|⟨rfl,aP⟩)
   ·by_cases U:re=0
    ·subst U
     have C:oX Wst.heap.size B0 Wst.heap.size sb gb pb (Wst.heap.size+1) a1 ag (some ⟨bp,op,none⟩) c1 cg cp s g p J (.int .i64 ((c.length+1:Nat):Int)) ax:=by
      refine⟨c.length+1,c++[rt],pre++[⟨a4,c4,rt,0⟩],rfl,by omega,?_,O,ab.out.keep T.1 T.2,by simp,by simp[cj],fun t ht=> ?_⟩
      ·have D:=z.out
       rw[M.out,if_pos rfl]at D
       rw[List.map_append,List.append_assoc,←D];rfl
      rcases List.mem_append.1 ht with h2|h2
      ·exact aT.out t h2
      rw[List.mem_singleton]at h2;rw[h2];exact a0.out rfl
     have L:=Lib.hid C
     clear C O T
     gi_wp2
     go_roundw
     case rel=>exact L.out
     case measure=>simp[intOf];omega
    have cW:(re != 0)=true:=by simpa using U
    have B:∃xs:List Td,xs.map Td.pt=dt s g p []∧J xs ax:=by
     refine⟨pre++[⟨a4,c4,rt,re⟩],?_,O⟩
     have D:=z.out
     rw[M.out,if_neg U]at D
     rw[List.map_append,←D];rfl
    have G:=Lib.hid B
    clear B O T U
    gi_wp2
    try simp only[Exit.inBlock,Exit.then]
    refine bodyPost_ret (results_none rfl _ _ _) rfl ?_
    exact⟨⟨_,rfl⟩, .inl G.out⟩
   have a2:(pre++[(⟨a4,c4,rt,re⟩:Td)]).map Td.pt<+:dt s g p []:=by
    have D:=z.out
    rw[M.out]at D
    rw[←D,List.map_append]
    exact⟨_,by rw[List.append_assoc];rfl⟩
   have a3:=Lib.hid a2
   clear a2
   gi_wp2
   try simp only[Exit.inBlock,Exit.then]
   refine bodyPost_ret (results_none rfl _ _ _) rfl ?_
   exact⟨⟨_,rfl⟩, .inr ⟨_,a3.out,aP⟩⟩
  have d5:p.length≤c.length:=by omega
  have B:∃xs:List Td,xs.map Td.pt=dt s g p []∧J xs wr:=by
   refine⟨pre,?_,hJ⟩
   have D:=al
   rw[List.drop_of_length_le (by omega),dt,List.append_nil]at D
   exact D
  have G:=Lib.hid B
  clear B hJ al hS
  gi_wp2
  go_end0
  exact⟨⟨_,rfl⟩, .inl G.out⟩
end Go.Proofs.YtlejmeegkpdabaaGreatDoor
